/- The walk of the law AstEqual. -/
import Derived.Test.YtkngdmilgfgclaaAwake2
import Derived.Test.YtkngdmilgfgclaaREq
namespace Go.Proofs.Ytkngdmilgfgclaa
open Go.RowKit Go.Shelf

def eSlot (i : Nat) : Nat := if i = 7 then 6 else 46 + i

theorem three_boxes {w wr : World} {a b c : Array Value} {t : Nat} (hb : Below (((w.alloc (.cells a t)).alloc (.cells b t)).alloc (.cells c t)).heap.size (((w.alloc (.cells a t)).alloc (.cells b t)).alloc (.cells c t)) wr) :
    wr.heap[w.heap.size]? = some (.cells a t (0, 0)) ∧ wr.heap[w.heap.size + 1]? = some (.cells b t (0, 0)) ∧ wr.heap[w.heap.size + 2]? = some (.cells c t (0, 0)) := by
  refine ⟨(hb.block _ (by simp; omega)).trans ?_, (hb.block _ (by simp)).trans ?_, (hb.block _ (by simp)).trans ?_⟩
  · exact (Below.heap_alloc _ _ _ (by simp; omega)).trans (heap_alloc2_old w _ _)
  · exact (Below.heap_alloc _ _ _ (by simp)).trans (heap_alloc2_new w _ _)
  · have := heap_alloc_new ((w.alloc (.cells a t)).alloc (.cells b t)) (.cells c t)
    simpa using this
theorem four_at {w : World} {g t : Nat} {x0 x1 x2 x3 : Value} (h : w.heap[g]? = some (.cells #[x0, x1, x2, x3] t (0, 0))) :
    w.cell? ⟨g, 0, none⟩ = some x0 ∧ w.cell? ⟨g, 1, none⟩ = some x1 ∧ w.cell? ⟨g, 2, none⟩ = some x2 ∧ w.cell? ⟨g, 3, none⟩ = some x3 :=
  ⟨cell_of_row _ _ 0 _ _ _ h, cell_of_row _ _ 1 _ _ _ h, cell_of_row _ _ 2 _ _ _ h, cell_of_row _ _ 3 _ _ _ h⟩

set_option maxRecDepth 100000 in
set_option maxHeartbeats 2000000 in
theorem astEqual_any (t1 t2 t3 : Tr) (v1 v2 v3 : Value) (w : World) (hr1 : Rep w w.heap.size t1 v1) (hr2 : Rep w w.heap.size t2 v2) (hr3 : Rep w w.heap.size t3 v3) :
    Calls Try.prog 5 #[v1, v2, v3] w fun e w' => e = .returned (.bool true) ∧ Below w.heap.size w w' := by
  have hmo : Try.prog.follows .mixedOrders = true := by kernel_rfl
  obtain ⟨k1, n1, s1, c1⟩ := t1
  obtain ⟨k2, n2, s2, c2⟩ := t2
  obtain ⟨k3, n3, s3, c3⟩ := t3
  have hr1' := hr1
  have hr2' := hr2
  have hr3' := hr3
  simp only [Rep] at hr1' hr2' hr3'
  obtain ⟨A1, cap1, rfl, _, _⟩ := hr1'
  obtain ⟨A2, cap2, rfl, _, _⟩ := hr2'
  obtain ⟨A3, cap3, rfl, _, _⟩ := hr3'
  unfold nodeV at *
  have hbx : Below w.heap.size w (((w.alloc (.cells #[.int .u8 k1, .int .i64 n1, .string s1, .slice A1 c1.length cap1] 24)).alloc (.cells #[.int .u8 k2, .int .i64 n2, .string s2, .slice A2 c2.length cap2] 24)).alloc (.cells #[.int .u8 k3, .int .i64 n3, .string s3, .slice A3 c3.length cap3] 24)) := (((Below.refl _ _).alloc (Nat.le_refl _) _).alloc (by simp) _).alloc (by simp; omega) _
  have HQ1 := Lib.hid (hr1.at_ (Nat.le_refl _) hbx)
  have HQ2 := Lib.hid (hr2.at_ (Nat.le_refl _) hbx)
  have HQ3 := Lib.hid (hr3.at_ (Nat.le_refl _) hbx)
  have HBX := Lib.hid hbx
  clear hr1 hr2 hr3 hbx
  go_enter Try.func5, Try.ntmps5
  go_wp2_with fail
  refine (awake_any _).mono ?_
  rintro e w1 ⟨rfl, hb⟩
  have HCw1 := Lib.hid hb
  obtain ⟨bx1, bx2, bx3⟩ := three_boxes hb
  obtain ⟨xa0, xa1, xa2, xa3⟩ := four_at bx1
  obtain ⟨xb0, xb1, xb2, xb3⟩ := four_at bx2
  obtain ⟨xc0, xc1, xc2, xc3⟩ := four_at bx3
  clear hb
  go_wp2_with fail
  refine (big_any (Tr.mk k1 n1 s1 c1) _ _ (HQ1.out.at_ (Nat.le_refl _) HCw1.out)).mono ?_
  rintro e w2 ⟨rfl, hb⟩
  have HCw2 := Lib.hid (HCw1.out.trans (hb.mono HCw1.out.size))
  obtain ⟨bx1, bx2, bx3⟩ := three_boxes HCw2.out
  obtain ⟨xa0, xa1, xa2, xa3⟩ := four_at bx1
  obtain ⟨xb0, xb1, xb2, xb3⟩ := four_at bx2
  obtain ⟨xc0, xc1, xc2, xc3⟩ := four_at bx3
  clear hb
  cases hg1 : bigB (Tr.mk k1 n1 s1 c1)
  case true =>
    go_wp2_with fail
    go_ret
    exact ⟨rfl, HBX.out.trans (HCw2.out.mono (by simp; omega))⟩
  case false =>
  go_wp2_with fail
  refine (big_any (Tr.mk k2 n2 s2 c2) _ _ (HQ2.out.at_ (Nat.le_refl _) HCw2.out)).mono ?_
  rintro e w3 ⟨rfl, hb⟩
  have HCw3 := Lib.hid (HCw2.out.trans (hb.mono HCw2.out.size))
  obtain ⟨bx1, bx2, bx3⟩ := three_boxes HCw3.out
  obtain ⟨xa0, xa1, xa2, xa3⟩ := four_at bx1
  obtain ⟨xb0, xb1, xb2, xb3⟩ := four_at bx2
  obtain ⟨xc0, xc1, xc2, xc3⟩ := four_at bx3
  clear hb
  cases hg2 : bigB (Tr.mk k2 n2 s2 c2)
  case true =>
    go_wp2_with fail
    go_ret
    exact ⟨rfl, HBX.out.trans (HCw3.out.mono (by simp; omega))⟩
  case false =>
  go_wp2_with fail
  refine (big_any (Tr.mk k3 n3 s3 c3) _ _ (HQ3.out.at_ (Nat.le_refl _) HCw3.out)).mono ?_
  rintro e W ⟨rfl, hb⟩
  have HCW := Lib.hid (HCw3.out.trans (hb.mono HCw3.out.size))
  obtain ⟨bx1, bx2, bx3⟩ := three_boxes HCW.out
  obtain ⟨xa0, xa1, xa2, xa3⟩ := four_at bx1
  obtain ⟨xb0, xb1, xb2, xb3⟩ := four_at bx2
  obtain ⟨xc0, xc1, xc2, xc3⟩ := four_at bx3
  clear hb
  cases hg3 : bigB (Tr.mk k3 n3 s3 c3)
  case true =>
    go_wp2_with fail
    go_ret
    exact ⟨rfl, HBX.out.trans (HCW.out.mono (by simp; omega))⟩
  case false =>
  have hzW := HCW.out.size
  simp only [World.size_alloc] at hzW
  have HR1 := Lib.hid (HQ1.out.at_ (Nat.le_refl _) HCW.out)
  have HR2 := Lib.hid (HQ2.out.at_ (Nat.le_refl _) HCW.out)
  have HR3 := Lib.hid (HQ3.out.at_ (Nat.le_refl _) HCW.out)
  cases he : eqB (Tr.mk k1 n1 s1 c1) (Tr.mk k2 n2 s2 c2)
  case false =>
    have HE := Lib.hid he
    clear he
    go_wp2_with fail
    refine wpIn_wide (n := 0) |>.1 (region_all (N := 27) (s := fun i => 19 + i) hmo rfl (by kernel_rfl) (fun V => Below W.heap.size W V) (Specs ([.is (.agg #[.int .u8 k1, .int .i64 n1, .string s1, .slice A1 c1.length cap1]), .is (.agg #[.int .u8 k1, .int .i64 n1, .string s1, .slice A1 c1.length cap1]), .is (.bool true), .is (.bool false), .is (.bool false), .is (.agg #[.int .u8 k1, .int .i64 n1, .string s1, .slice A1 c1.length cap1]), .is (.agg #[.int .u8 k2, .int .i64 n2, .string s2, .slice A2 c2.length cap2]), .is (.bool false), .is (.agg #[.int .u8 k2, .int .i64 n2, .string s2, .slice A2 c2.length cap2]), .is (.agg #[.int .u8 k1, .int .i64 n1, .string s1, .slice A1 c1.length cap1]), .is (.bool false), .is (.bool false), .is (.bool false), .is (.bool false), .is (.agg #[.int .u8 k1, .int .i64 n1, .string s1, .slice A1 c1.length cap1]), .is (.agg #[.int .u8 k2, .int .i64 n2, .string s2, .slice A2 c2.length cap2]), .is (.bool false), .is (.bool false), .is undef, .is undef, .is undef, .is undef, .is undef, .is undef, .is undef, .is (.bool false), .is (.bool false)])) (by intro j hj; simp; omega) (by intro i j _ _ e; simp at e; omega) (Below.refl _ _).drew ?steps ?fin)
    case steps =>
      show AllFrom _ 0 (_ :: _)
      refine AllFrom.cons (fun listed a2 V h hi hd => ?_) ?_
      · have f3 : a2.tmps[3]? = some (.pointer (some ⟨w.heap.size, 0, none⟩)) := h.fixed 3 (by intro j hj; skip; simp; omega)
        have B0 := (h.cw.block (w.heap.size) (by omega)).trans bx1
        have kc0 : V.cell? ⟨w.heap.size, 0, none⟩ = some (.int .u8 k1) := cell_of_row _ _ 0 _ _ _ B0
        have kc1 : V.cell? ⟨w.heap.size, 1, none⟩ = some (.int .i64 n1) := cell_of_row _ _ 1 _ _ _ B0
        have kc2 : V.cell? ⟨w.heap.size, 2, none⟩ = some (.string s1) := cell_of_row _ _ 2 _ _ _ B0
        have kc3 : V.cell? ⟨w.heap.size, 3, none⟩ = some (.slice A1 c1.length cap1) := cell_of_row _ _ 3 _ _ _ B0
        exact RInv.pure (v := .agg #[.int .u8 k1, .int .i64 n1, .string s1, .slice A1 c1.length cap1]) h hi rfl (wanted_none rfl) (fun _ => trivial) (by intro c; simp) (by simp [execOp, f3, kc0, kc1, kc2, kc3, go_sem]) rfl
      refine AllFrom.cons (fun listed a2 V h hi hd => ?_) ?_
      · have f3 : a2.tmps[3]? = some (.pointer (some ⟨w.heap.size, 0, none⟩)) := h.fixed 3 (by intro j hj; skip; simp; omega)
        have B0 := (h.cw.block (w.heap.size) (by omega)).trans bx1
        have kc0 : V.cell? ⟨w.heap.size, 0, none⟩ = some (.int .u8 k1) := cell_of_row _ _ 0 _ _ _ B0
        have kc1 : V.cell? ⟨w.heap.size, 1, none⟩ = some (.int .i64 n1) := cell_of_row _ _ 1 _ _ _ B0
        have kc2 : V.cell? ⟨w.heap.size, 2, none⟩ = some (.string s1) := cell_of_row _ _ 2 _ _ _ B0
        have kc3 : V.cell? ⟨w.heap.size, 3, none⟩ = some (.slice A1 c1.length cap1) := cell_of_row _ _ 3 _ _ _ B0
        exact RInv.pure (v := .agg #[.int .u8 k1, .int .i64 n1, .string s1, .slice A1 c1.length cap1]) h hi rfl (wanted_none rfl) (fun _ => trivial) (by intro c; simp) (by simp [execOp, f3, kc0, kc1, kc2, kc3, go_sem]) rfl
      refine AllFrom.cons (fun listed a2 V h hi hd => ?_) ?_
      · obtain ⟨u0, h0, e0⟩ := hd ⟨0, .data⟩ (by simp) rfl
        replace e0 : u0 = .agg #[.int .u8 k1, .int .i64 n1, .string s1, .slice A1 c1.length cap1] := e0
        subst e0
        replace h0 : a2.tmps[19]? = some _ := h0
        obtain ⟨u1, h1, e1⟩ := hd ⟨1, .data⟩ (by simp) rfl
        replace e1 : u1 = .agg #[.int .u8 k1, .int .i64 n1, .string s1, .slice A1 c1.length cap1] := e1
        subst e1
        replace h1 : a2.tmps[20]? = some _ := h1
        refine RInv.enter (f := 28) (args := #[.agg #[.int .u8 k1, .int .i64 n1, .string s1, .slice A1 c1.length cap1], .agg #[.int .u8 k1, .int .i64 n1, .string s1, .slice A1 c1.length cap1]]) h hi rfl (wanted_none rfl) (fun _ => trivial) (by intro c; simp) rfl (by simp [execOp, h0, h1, go_sem]) ?_
        refine (callsIn_wide.2 (equal_any (Tr.mk k1 n1 s1 c1) (Tr.mk k1 n1 s1 c1) _ _ _ (HR1.out.at_ (Nat.le_refl _) h.cw) (HR1.out.at_ (Nat.le_refl _) h.cw))).mono ?_
        rw [eqB_refl]
        rintro e V2 ⟨rfl, hq1⟩
        exact ⟨_, rfl, h.cw.trans (hq1.mono h.cw.size), Specs.mono hq1, rfl⟩
      refine AllFrom.cons (fun listed a2 V h hi hd => ?_) ?_
      · obtain ⟨u2, h2, e2⟩ := hd ⟨2, .data⟩ (by simp) rfl
        replace e2 : u2 = .bool true := e2
        subst e2
        replace h2 : a2.tmps[21]? = some _ := h2
        exact RInv.pure (v := .bool false) h hi rfl (wanted_none rfl) (fun _ => trivial) (by intro c; simp) (by simp [execOp, h2, go_sem]) rfl
      refine AllFrom.cons (fun listed a2 V h hi hd => ?_) ?_
      · obtain ⟨u3, h3, e3⟩ := hd ⟨3, .data⟩ (by simp) rfl
        replace e3 : u3 = .bool false := e3
        subst e3
        replace h3 : a2.tmps[22]? = some _ := h3
        exact RInv.pure (v := .bool false) h hi rfl (wanted_none rfl) (fun _ => trivial) (by intro c; simp) (by simp [execOp, h3, go_sem]) rfl
      refine AllFrom.cons (fun listed a2 V h hi hd => ?_) ?_
      · obtain ⟨u4, h4, e4⟩ := hd ⟨4, .guard⟩ (by simp) rfl
        replace e4 : u4 = .bool false := e4
        subst e4
        replace h4 : a2.tmps[23]? = some _ := h4
        have f3 : a2.tmps[3]? = some (.pointer (some ⟨w.heap.size, 0, none⟩)) := h.fixed 3 (by intro j hj; skip; simp; omega)
        have B0 := (h.cw.block (w.heap.size) (by omega)).trans bx1
        have kc0 : V.cell? ⟨w.heap.size, 0, none⟩ = some (.int .u8 k1) := cell_of_row _ _ 0 _ _ _ B0
        have kc1 : V.cell? ⟨w.heap.size, 1, none⟩ = some (.int .i64 n1) := cell_of_row _ _ 1 _ _ _ B0
        have kc2 : V.cell? ⟨w.heap.size, 2, none⟩ = some (.string s1) := cell_of_row _ _ 2 _ _ _ B0
        have kc3 : V.cell? ⟨w.heap.size, 3, none⟩ = some (.slice A1 c1.length cap1) := cell_of_row _ _ 3 _ _ _ B0
        exact RInv.pure (v := .agg #[.int .u8 k1, .int .i64 n1, .string s1, .slice A1 c1.length cap1]) h hi rfl (wanted_at rfl rfl h4 rfl) (fun _ => trivial) (by intro c; simp) (by simp [execOp, f3, kc0, kc1, kc2, kc3, go_sem]) rfl
      refine AllFrom.cons (fun listed a2 V h hi hd => ?_) ?_
      · obtain ⟨u4, h4, e4⟩ := hd ⟨4, .guard⟩ (by simp) rfl
        replace e4 : u4 = .bool false := e4
        subst e4
        replace h4 : a2.tmps[23]? = some _ := h4
        have f4 : a2.tmps[4]? = some (.pointer (some ⟨w.heap.size + 1, 0, none⟩)) := h.fixed 4 (by intro j hj; skip; simp; omega)
        have B0 := (h.cw.block (w.heap.size + 1) (by omega)).trans bx2
        have kc0 : V.cell? ⟨w.heap.size + 1, 0, none⟩ = some (.int .u8 k2) := cell_of_row _ _ 0 _ _ _ B0
        have kc1 : V.cell? ⟨w.heap.size + 1, 1, none⟩ = some (.int .i64 n2) := cell_of_row _ _ 1 _ _ _ B0
        have kc2 : V.cell? ⟨w.heap.size + 1, 2, none⟩ = some (.string s2) := cell_of_row _ _ 2 _ _ _ B0
        have kc3 : V.cell? ⟨w.heap.size + 1, 3, none⟩ = some (.slice A2 c2.length cap2) := cell_of_row _ _ 3 _ _ _ B0
        exact RInv.pure (v := .agg #[.int .u8 k2, .int .i64 n2, .string s2, .slice A2 c2.length cap2]) h hi rfl (wanted_at rfl rfl h4 rfl) (fun _ => trivial) (by intro c; simp) (by simp [execOp, f4, kc0, kc1, kc2, kc3, go_sem]) rfl
      refine AllFrom.cons (fun listed a2 V h hi hd => ?_) ?_
      · obtain ⟨u5, h5, e5⟩ := hd ⟨5, .data⟩ (by simp) rfl
        replace e5 : u5 = .agg #[.int .u8 k1, .int .i64 n1, .string s1, .slice A1 c1.length cap1] := e5
        subst e5
        replace h5 : a2.tmps[24]? = some _ := h5
        obtain ⟨u6, h6, e6⟩ := hd ⟨6, .data⟩ (by simp) rfl
        replace e6 : u6 = .agg #[.int .u8 k2, .int .i64 n2, .string s2, .slice A2 c2.length cap2] := e6
        subst e6
        replace h6 : a2.tmps[25]? = some _ := h6
        obtain ⟨u4, h4, e4⟩ := hd ⟨4, .chain⟩ (by simp) rfl
        replace e4 : u4 = .bool false := e4
        subst e4
        replace h4 : a2.tmps[23]? = some _ := h4
        refine RInv.enter (f := 28) (args := #[.agg #[.int .u8 k1, .int .i64 n1, .string s1, .slice A1 c1.length cap1], .agg #[.int .u8 k2, .int .i64 n2, .string s2, .slice A2 c2.length cap2]]) h hi rfl (wanted_at rfl rfl h4 rfl) (fun _ => trivial) (by intro c; simp) rfl (by simp [execOp, h5, h6, go_sem]) ?_
        refine (callsIn_wide.2 (equal_any (Tr.mk k1 n1 s1 c1) (Tr.mk k2 n2 s2 c2) _ _ _ (HR1.out.at_ (Nat.le_refl _) h.cw) (HR2.out.at_ (Nat.le_refl _) h.cw))).mono ?_
        rw [HE.out]
        rintro e V2 ⟨rfl, hq1⟩
        exact ⟨_, rfl, h.cw.trans (hq1.mono h.cw.size), Specs.mono hq1, rfl⟩
      refine AllFrom.cons (fun listed a2 V h hi hd => ?_) ?_
      · obtain ⟨u4, h4, e4⟩ := hd ⟨4, .guard⟩ (by simp) rfl
        replace e4 : u4 = .bool false := e4
        subst e4
        replace h4 : a2.tmps[23]? = some _ := h4
        have f4 : a2.tmps[4]? = some (.pointer (some ⟨w.heap.size + 1, 0, none⟩)) := h.fixed 4 (by intro j hj; skip; simp; omega)
        have B0 := (h.cw.block (w.heap.size + 1) (by omega)).trans bx2
        have kc0 : V.cell? ⟨w.heap.size + 1, 0, none⟩ = some (.int .u8 k2) := cell_of_row _ _ 0 _ _ _ B0
        have kc1 : V.cell? ⟨w.heap.size + 1, 1, none⟩ = some (.int .i64 n2) := cell_of_row _ _ 1 _ _ _ B0
        have kc2 : V.cell? ⟨w.heap.size + 1, 2, none⟩ = some (.string s2) := cell_of_row _ _ 2 _ _ _ B0
        have kc3 : V.cell? ⟨w.heap.size + 1, 3, none⟩ = some (.slice A2 c2.length cap2) := cell_of_row _ _ 3 _ _ _ B0
        exact RInv.pure (v := .agg #[.int .u8 k2, .int .i64 n2, .string s2, .slice A2 c2.length cap2]) h hi rfl (wanted_at rfl rfl h4 rfl) (fun _ => trivial) (by intro c; simp) (by simp [execOp, f4, kc0, kc1, kc2, kc3, go_sem]) rfl
      refine AllFrom.cons (fun listed a2 V h hi hd => ?_) ?_
      · obtain ⟨u4, h4, e4⟩ := hd ⟨4, .guard⟩ (by simp) rfl
        replace e4 : u4 = .bool false := e4
        subst e4
        replace h4 : a2.tmps[23]? = some _ := h4
        have f3 : a2.tmps[3]? = some (.pointer (some ⟨w.heap.size, 0, none⟩)) := h.fixed 3 (by intro j hj; skip; simp; omega)
        have B0 := (h.cw.block (w.heap.size) (by omega)).trans bx1
        have kc0 : V.cell? ⟨w.heap.size, 0, none⟩ = some (.int .u8 k1) := cell_of_row _ _ 0 _ _ _ B0
        have kc1 : V.cell? ⟨w.heap.size, 1, none⟩ = some (.int .i64 n1) := cell_of_row _ _ 1 _ _ _ B0
        have kc2 : V.cell? ⟨w.heap.size, 2, none⟩ = some (.string s1) := cell_of_row _ _ 2 _ _ _ B0
        have kc3 : V.cell? ⟨w.heap.size, 3, none⟩ = some (.slice A1 c1.length cap1) := cell_of_row _ _ 3 _ _ _ B0
        exact RInv.pure (v := .agg #[.int .u8 k1, .int .i64 n1, .string s1, .slice A1 c1.length cap1]) h hi rfl (wanted_at rfl rfl h4 rfl) (fun _ => trivial) (by intro c; simp) (by simp [execOp, f3, kc0, kc1, kc2, kc3, go_sem]) rfl
      refine AllFrom.cons (fun listed a2 V h hi hd => ?_) ?_
      · obtain ⟨u8, h8, e8⟩ := hd ⟨8, .data⟩ (by simp) rfl
        replace e8 : u8 = .agg #[.int .u8 k2, .int .i64 n2, .string s2, .slice A2 c2.length cap2] := e8
        subst e8
        replace h8 : a2.tmps[27]? = some _ := h8
        obtain ⟨u9, h9, e9⟩ := hd ⟨9, .data⟩ (by simp) rfl
        replace e9 : u9 = .agg #[.int .u8 k1, .int .i64 n1, .string s1, .slice A1 c1.length cap1] := e9
        subst e9
        replace h9 : a2.tmps[28]? = some _ := h9
        obtain ⟨u4, h4, e4⟩ := hd ⟨4, .guard⟩ (by simp) rfl
        replace e4 : u4 = .bool false := e4
        subst e4
        replace h4 : a2.tmps[23]? = some _ := h4
        refine RInv.enter (f := 28) (args := #[.agg #[.int .u8 k2, .int .i64 n2, .string s2, .slice A2 c2.length cap2], .agg #[.int .u8 k1, .int .i64 n1, .string s1, .slice A1 c1.length cap1]]) h hi rfl (wanted_at rfl rfl h4 rfl) (fun _ => trivial) (by intro c; simp) rfl (by simp [execOp, h8, h9, go_sem]) ?_
        refine (callsIn_wide.2 (equal_any (Tr.mk k2 n2 s2 c2) (Tr.mk k1 n1 s1 c1) _ _ _ (HR2.out.at_ (Nat.le_refl _) h.cw) (HR1.out.at_ (Nat.le_refl _) h.cw))).mono ?_
        rw [eqB_comm, HE.out]
        rintro e V2 ⟨rfl, hq1⟩
        exact ⟨_, rfl, h.cw.trans (hq1.mono h.cw.size), Specs.mono hq1, rfl⟩
      refine AllFrom.cons (fun listed a2 V h hi hd => ?_) ?_
      · obtain ⟨u7, h7, e7⟩ := hd ⟨7, .data⟩ (by simp) rfl
        replace e7 : u7 = .bool false := e7
        subst e7
        replace h7 : a2.tmps[26]? = some _ := h7
        obtain ⟨u10, h10, e10⟩ := hd ⟨10, .data⟩ (by simp) rfl
        replace e10 : u10 = .bool false := e10
        subst e10
        replace h10 : a2.tmps[29]? = some _ := h10
        obtain ⟨u4, h4, e4⟩ := hd ⟨4, .guard⟩ (by simp) rfl
        replace e4 : u4 = .bool false := e4
        subst e4
        replace h4 : a2.tmps[23]? = some _ := h4
        exact RInv.pure (v := .bool false) h hi rfl (wanted_at rfl rfl h4 rfl) (fun _ => trivial) (by intro c; simp) (by simp [execOp, h7, h10, go_sem]) rfl
      refine AllFrom.cons (fun listed a2 V h hi hd => ?_) ?_
      · obtain ⟨u4, h4, e4⟩ := hd ⟨4, .data⟩ (by simp) rfl
        replace e4 : u4 = .bool false := e4
        subst e4
        replace h4 : a2.tmps[23]? = some _ := h4
        obtain ⟨u11, h11, e11⟩ := hd ⟨11, .data⟩ (by simp) rfl
        replace e11 : u11 = .bool false := e11
        subst e11
        replace h11 : a2.tmps[30]? = some _ := h11
        exact RInv.pure (v := .bool false) h hi rfl (wanted_none rfl) (fun _ => trivial) (by intro c; simp) (by simp [execOp, h4, h11, go_sem]) rfl
      refine AllFrom.cons (fun listed a2 V h hi hd => ?_) ?_
      · obtain ⟨u12, h12, e12⟩ := hd ⟨12, .data⟩ (by simp) rfl
        replace e12 : u12 = .bool false := e12
        subst e12
        replace h12 : a2.tmps[31]? = some _ := h12
        exact RInv.pure (v := .bool false) h hi rfl (wanted_none rfl) (fun _ => trivial) (by intro c; simp) (by simp [execOp, h12, go_sem]) rfl
      refine AllFrom.cons (fun listed a2 V h hi hd => ?_) ?_
      · obtain ⟨u13, h13, e13⟩ := hd ⟨13, .guard⟩ (by simp) rfl
        replace e13 : u13 = .bool false := e13
        subst e13
        replace h13 : a2.tmps[32]? = some _ := h13
        have f3 : a2.tmps[3]? = some (.pointer (some ⟨w.heap.size, 0, none⟩)) := h.fixed 3 (by intro j hj; skip; simp; omega)
        have B0 := (h.cw.block (w.heap.size) (by omega)).trans bx1
        have kc0 : V.cell? ⟨w.heap.size, 0, none⟩ = some (.int .u8 k1) := cell_of_row _ _ 0 _ _ _ B0
        have kc1 : V.cell? ⟨w.heap.size, 1, none⟩ = some (.int .i64 n1) := cell_of_row _ _ 1 _ _ _ B0
        have kc2 : V.cell? ⟨w.heap.size, 2, none⟩ = some (.string s1) := cell_of_row _ _ 2 _ _ _ B0
        have kc3 : V.cell? ⟨w.heap.size, 3, none⟩ = some (.slice A1 c1.length cap1) := cell_of_row _ _ 3 _ _ _ B0
        exact RInv.pure (v := .agg #[.int .u8 k1, .int .i64 n1, .string s1, .slice A1 c1.length cap1]) h hi rfl (wanted_at rfl rfl h13 rfl) (fun _ => trivial) (by intro c; simp) (by simp [execOp, f3, kc0, kc1, kc2, kc3, go_sem]) rfl
      refine AllFrom.cons (fun listed a2 V h hi hd => ?_) ?_
      · obtain ⟨u13, h13, e13⟩ := hd ⟨13, .guard⟩ (by simp) rfl
        replace e13 : u13 = .bool false := e13
        subst e13
        replace h13 : a2.tmps[32]? = some _ := h13
        have f4 : a2.tmps[4]? = some (.pointer (some ⟨w.heap.size + 1, 0, none⟩)) := h.fixed 4 (by intro j hj; skip; simp; omega)
        have B0 := (h.cw.block (w.heap.size + 1) (by omega)).trans bx2
        have kc0 : V.cell? ⟨w.heap.size + 1, 0, none⟩ = some (.int .u8 k2) := cell_of_row _ _ 0 _ _ _ B0
        have kc1 : V.cell? ⟨w.heap.size + 1, 1, none⟩ = some (.int .i64 n2) := cell_of_row _ _ 1 _ _ _ B0
        have kc2 : V.cell? ⟨w.heap.size + 1, 2, none⟩ = some (.string s2) := cell_of_row _ _ 2 _ _ _ B0
        have kc3 : V.cell? ⟨w.heap.size + 1, 3, none⟩ = some (.slice A2 c2.length cap2) := cell_of_row _ _ 3 _ _ _ B0
        exact RInv.pure (v := .agg #[.int .u8 k2, .int .i64 n2, .string s2, .slice A2 c2.length cap2]) h hi rfl (wanted_at rfl rfl h13 rfl) (fun _ => trivial) (by intro c; simp) (by simp [execOp, f4, kc0, kc1, kc2, kc3, go_sem]) rfl
      refine AllFrom.cons (fun listed a2 V h hi hd => ?_) ?_
      · obtain ⟨u14, h14, e14⟩ := hd ⟨14, .data⟩ (by simp) rfl
        replace e14 : u14 = .agg #[.int .u8 k1, .int .i64 n1, .string s1, .slice A1 c1.length cap1] := e14
        subst e14
        replace h14 : a2.tmps[33]? = some _ := h14
        obtain ⟨u15, h15, e15⟩ := hd ⟨15, .data⟩ (by simp) rfl
        replace e15 : u15 = .agg #[.int .u8 k2, .int .i64 n2, .string s2, .slice A2 c2.length cap2] := e15
        subst e15
        replace h15 : a2.tmps[34]? = some _ := h15
        obtain ⟨u13, h13, e13⟩ := hd ⟨13, .chain⟩ (by simp) rfl
        replace e13 : u13 = .bool false := e13
        subst e13
        replace h13 : a2.tmps[32]? = some _ := h13
        refine RInv.enter (f := 28) (args := #[.agg #[.int .u8 k1, .int .i64 n1, .string s1, .slice A1 c1.length cap1], .agg #[.int .u8 k2, .int .i64 n2, .string s2, .slice A2 c2.length cap2]]) h hi rfl (wanted_at rfl rfl h13 rfl) (fun _ => trivial) (by intro c; simp) rfl (by simp [execOp, h14, h15, go_sem]) ?_
        refine (callsIn_wide.2 (equal_any (Tr.mk k1 n1 s1 c1) (Tr.mk k2 n2 s2 c2) _ _ _ (HR1.out.at_ (Nat.le_refl _) h.cw) (HR2.out.at_ (Nat.le_refl _) h.cw))).mono ?_
        rw [HE.out]
        rintro e V2 ⟨rfl, hq1⟩
        exact ⟨_, rfl, h.cw.trans (hq1.mono h.cw.size), Specs.mono hq1, rfl⟩
      refine AllFrom.cons (fun listed a2 V h hi hd => ?_) ?_
      · obtain ⟨u16, h16, e16⟩ := hd ⟨16, .data⟩ (by simp) rfl
        replace e16 : u16 = .bool false := e16
        subst e16
        replace h16 : a2.tmps[35]? = some _ := h16
        obtain ⟨u13, h13, e13⟩ := hd ⟨13, .guard⟩ (by simp) rfl
        replace e13 : u13 = .bool false := e13
        subst e13
        replace h13 : a2.tmps[32]? = some _ := h13
        exact RInv.pure (v := .bool false) h hi rfl (wanted_at rfl rfl h13 rfl) (fun _ => trivial) (by intro c; simp) (by simp [execOp, h16, go_sem]) rfl
      refine AllFrom.cons (fun listed a2 V h hi hd => ?_) ?_
      · obtain ⟨u17, h17, e17⟩ := hd ⟨17, .guard⟩ (by simp) rfl
        replace e17 : u17 = .bool false := e17
        subst e17
        replace h17 : a2.tmps[36]? = some _ := h17
        exact RInv.skip h hi rfl (wanted_at rfl rfl h17 rfl) (fun _ => trivial) rfl
      refine AllFrom.cons (fun listed a2 V h hi hd => ?_) ?_
      · obtain ⟨u17, h17, e17⟩ := hd ⟨17, .guard⟩ (by simp) rfl
        replace e17 : u17 = .bool false := e17
        subst e17
        replace h17 : a2.tmps[36]? = some _ := h17
        exact RInv.skip h hi rfl (wanted_at rfl rfl h17 rfl) (fun _ => trivial) rfl
      refine AllFrom.cons (fun listed a2 V h hi hd => ?_) ?_
      · obtain ⟨u18, h18, e18⟩ := hd ⟨18, .data⟩ (by simp) rfl
        replace e18 : u18 = undef := e18
        subst e18
        replace h18 : a2.tmps[37]? = some _ := h18
        obtain ⟨u19, h19, e19⟩ := hd ⟨19, .data⟩ (by simp) rfl
        replace e19 : u19 = undef := e19
        subst e19
        replace h19 : a2.tmps[38]? = some _ := h19
        obtain ⟨u17, h17, e17⟩ := hd ⟨17, .chain⟩ (by simp) rfl
        replace e17 : u17 = .bool false := e17
        subst e17
        replace h17 : a2.tmps[36]? = some _ := h17
        exact RInv.skip h hi rfl (wanted_at rfl rfl h17 rfl) (fun _ => trivial) rfl
      refine AllFrom.cons (fun listed a2 V h hi hd => ?_) ?_
      · obtain ⟨u17, h17, e17⟩ := hd ⟨17, .guard⟩ (by simp) rfl
        replace e17 : u17 = .bool false := e17
        subst e17
        replace h17 : a2.tmps[36]? = some _ := h17
        exact RInv.skip h hi rfl (wanted_at rfl rfl h17 rfl) (fun _ => trivial) rfl
      refine AllFrom.cons (fun listed a2 V h hi hd => ?_) ?_
      · obtain ⟨u17, h17, e17⟩ := hd ⟨17, .guard⟩ (by simp) rfl
        replace e17 : u17 = .bool false := e17
        subst e17
        replace h17 : a2.tmps[36]? = some _ := h17
        exact RInv.skip h hi rfl (wanted_at rfl rfl h17 rfl) (fun _ => trivial) rfl
      refine AllFrom.cons (fun listed a2 V h hi hd => ?_) ?_
      · obtain ⟨u21, h21, e21⟩ := hd ⟨21, .data⟩ (by simp) rfl
        replace e21 : u21 = undef := e21
        subst e21
        replace h21 : a2.tmps[40]? = some _ := h21
        obtain ⟨u22, h22, e22⟩ := hd ⟨22, .data⟩ (by simp) rfl
        replace e22 : u22 = undef := e22
        subst e22
        replace h22 : a2.tmps[41]? = some _ := h22
        obtain ⟨u17, h17, e17⟩ := hd ⟨17, .guard⟩ (by simp) rfl
        replace e17 : u17 = .bool false := e17
        subst e17
        replace h17 : a2.tmps[36]? = some _ := h17
        exact RInv.skip h hi rfl (wanted_at rfl rfl h17 rfl) (fun _ => trivial) rfl
      refine AllFrom.cons (fun listed a2 V h hi hd => ?_) ?_
      · obtain ⟨u20, h20, e20⟩ := hd ⟨20, .data⟩ (by simp) rfl
        replace e20 : u20 = undef := e20
        subst e20
        replace h20 : a2.tmps[39]? = some _ := h20
        obtain ⟨u23, h23, e23⟩ := hd ⟨23, .data⟩ (by simp) rfl
        replace e23 : u23 = undef := e23
        subst e23
        replace h23 : a2.tmps[42]? = some _ := h23
        obtain ⟨u17, h17, e17⟩ := hd ⟨17, .guard⟩ (by simp) rfl
        replace e17 : u17 = .bool false := e17
        subst e17
        replace h17 : a2.tmps[36]? = some _ := h17
        exact RInv.skip h hi rfl (wanted_at rfl rfl h17 rfl) (fun _ => trivial) rfl
      refine AllFrom.cons (fun listed a2 V h hi hd => ?_) ?_
      · obtain ⟨u17, h17, e17⟩ := hd ⟨17, .data⟩ (by simp) rfl
        replace e17 : u17 = .bool false := e17
        subst e17
        replace h17 : a2.tmps[36]? = some _ := h17
        obtain ⟨u24, h24, e24⟩ := hd ⟨24, .data⟩ (by simp) rfl
        replace e24 : u24 = undef := e24
        subst e24
        replace h24 : a2.tmps[43]? = some _ := h24
        obtain ⟨u13, h13, e13⟩ := hd ⟨13, .guard⟩ (by simp) rfl
        replace e13 : u13 = .bool false := e13
        subst e13
        replace h13 : a2.tmps[32]? = some _ := h13
        exact RInv.pure (v := .bool false) h hi rfl (wanted_at rfl rfl h13 rfl) (fun _ => trivial) (by intro c; simp) (by simp [execOp, h17, go_sem]) rfl
      refine AllFrom.cons (fun listed a2 V h hi hd => ?_) ?_
      · obtain ⟨u13, h13, e13⟩ := hd ⟨13, .data⟩ (by simp) rfl
        replace e13 : u13 = .bool false := e13
        subst e13
        replace h13 : a2.tmps[32]? = some _ := h13
        obtain ⟨u25, h25, e25⟩ := hd ⟨25, .data⟩ (by simp) rfl
        replace e25 : u25 = .bool false := e25
        subst e25
        replace h25 : a2.tmps[44]? = some _ := h25
        exact RInv.pure (v := .bool false) h hi rfl (wanted_none rfl) (fun _ => trivial) (by intro c; simp) (by simp [execOp, h13, h25, go_sem]) rfl
      exact trivial
    case fin =>
      rintro a2 V hV hs hdf hfx hph
      obtain ⟨u26, h26, e26⟩ := hph 26 (by omega)
      replace e26 : u26 = .bool false := e26
      subst e26
      replace h26 : a2.tmps[45]? = some _ := h26
      obtain ⟨tm, df⟩ := a2
      have hdf1 : df = [] := hdf
      subst hdf1
      have htm := tm_sets [19, 20, 21, 22, 23, 24, 25, 26, 27, 28, 29, 30, 31, 32, 33, 34, 35, 36, 37, 38, 39, 40, 41, 42, 43, 44, 45] hs (fun t ht => hfx t (fun j hj e => ht (e ▸ (show ∀ j, j < 27 → (fun i => 19 + i) j ∈ [19, 20, 21, 22, 23, 24, 25, 26, 27, 28, 29, 30, 31, 32, 33, 34, 35, 36, 37, 38, 39, 40, 41, 42, 43, 44, 45] by decide) j hj)))
      simp only [List.foldl_cons, List.foldl_nil, List.setIfInBounds_toArray, List.set_cons_succ, List.set_cons_zero] at htm
      rw [show tm.getD 45 undef = .bool false from by simp only [Array.getD_eq_getD_getElem?, h26, Option.getD_some]] at htm
      clear hs hdf hfx hph h26
      generalize tm.getD 19 undef = y19 at htm
      generalize tm.getD 20 undef = y20 at htm
      generalize tm.getD 21 undef = y21 at htm
      generalize tm.getD 22 undef = y22 at htm
      generalize tm.getD 23 undef = y23 at htm
      generalize tm.getD 24 undef = y24 at htm
      generalize tm.getD 25 undef = y25 at htm
      generalize tm.getD 26 undef = y26 at htm
      generalize tm.getD 27 undef = y27 at htm
      generalize tm.getD 28 undef = y28 at htm
      generalize tm.getD 29 undef = y29 at htm
      generalize tm.getD 30 undef = y30 at htm
      generalize tm.getD 31 undef = y31 at htm
      generalize tm.getD 32 undef = y32 at htm
      generalize tm.getD 33 undef = y33 at htm
      generalize tm.getD 34 undef = y34 at htm
      generalize tm.getD 35 undef = y35 at htm
      generalize tm.getD 36 undef = y36 at htm
      generalize tm.getD 37 undef = y37 at htm
      generalize tm.getD 38 undef = y38 at htm
      generalize tm.getD 39 undef = y39 at htm
      generalize tm.getD 40 undef = y40 at htm
      generalize tm.getD 41 undef = y41 at htm
      generalize tm.getD 42 undef = y42 at htm
      generalize tm.getD 43 undef = y43 at htm
      generalize tm.getD 44 undef = y44 at htm
      subst htm
      have hcV := HCW.out.trans (hV.mono HCW.out.size)
      have hzV := hcV.size
      simp only [World.size_alloc] at hzV
      obtain ⟨bx1, bx2, bx3⟩ := three_boxes hcV
      have HR1 := Lib.hid (HR1.out.at_ (Nat.le_refl _) hV)
      have HR2 := Lib.hid (HR2.out.at_ (Nat.le_refl _) hV)
      have HR3 := Lib.hid (HR3.out.at_ (Nat.le_refl _) hV)
      have HCV := Lib.hid hcV
      clear hV hcV
      go_wp2_with fail
      refine wpIn_wide (n := 0) |>.1 (region_all (N := 8) (s := eSlot) hmo rfl (by kernel_rfl) (fun U => Below V.heap.size V U) (Specs ([.is (.agg #[.int .u8 k1, .int .i64 n1, .string s1, .slice A1 c1.length cap1]), .is (.agg #[.int .u8 k2, .int .i64 n2, .string s2, .slice A2 c2.length cap2]), .is (.bool false), .is (.agg #[.int .u8 k1, .int .i64 n1, .string s1, .slice A1 c1.length cap1]), .is (.agg #[.int .u8 k2, .int .i64 n2, .string s2, .slice A2 c2.length cap2]), .is (.bool false), .is (.bool true), .is (.bool true)])) (by intro j hj; unfold eSlot; simp; split <;> omega) (by intro i j _ _ e; unfold eSlot at e; split at e <;> split at e <;> omega) (Below.refl _ _).drew ?steps ?fin)
      case steps =>
        show AllFrom _ 0 (_ :: _)
        refine AllFrom.cons (fun listed a2 V h hi hd => ?_) ?_
        · have f3 : a2.tmps[3]? = some (.pointer (some ⟨w.heap.size, 0, none⟩)) := h.fixed 3 (by intro j hj; unfold eSlot; split <;> omega)
          have B0 := (h.cw.block (w.heap.size) (by omega)).trans bx1
          have kc0 : V.cell? ⟨w.heap.size, 0, none⟩ = some (.int .u8 k1) := cell_of_row _ _ 0 _ _ _ B0
          have kc1 : V.cell? ⟨w.heap.size, 1, none⟩ = some (.int .i64 n1) := cell_of_row _ _ 1 _ _ _ B0
          have kc2 : V.cell? ⟨w.heap.size, 2, none⟩ = some (.string s1) := cell_of_row _ _ 2 _ _ _ B0
          have kc3 : V.cell? ⟨w.heap.size, 3, none⟩ = some (.slice A1 c1.length cap1) := cell_of_row _ _ 3 _ _ _ B0
          exact RInv.pure (v := .agg #[.int .u8 k1, .int .i64 n1, .string s1, .slice A1 c1.length cap1]) h hi rfl (wanted_none rfl) (fun _ => trivial) (by intro c; simp) (by simp [execOp, f3, kc0, kc1, kc2, kc3, go_sem]) rfl
        refine AllFrom.cons (fun listed a2 V h hi hd => ?_) ?_
        · have f4 : a2.tmps[4]? = some (.pointer (some ⟨w.heap.size + 1, 0, none⟩)) := h.fixed 4 (by intro j hj; unfold eSlot; split <;> omega)
          have B0 := (h.cw.block (w.heap.size + 1) (by omega)).trans bx2
          have kc0 : V.cell? ⟨w.heap.size + 1, 0, none⟩ = some (.int .u8 k2) := cell_of_row _ _ 0 _ _ _ B0
          have kc1 : V.cell? ⟨w.heap.size + 1, 1, none⟩ = some (.int .i64 n2) := cell_of_row _ _ 1 _ _ _ B0
          have kc2 : V.cell? ⟨w.heap.size + 1, 2, none⟩ = some (.string s2) := cell_of_row _ _ 2 _ _ _ B0
          have kc3 : V.cell? ⟨w.heap.size + 1, 3, none⟩ = some (.slice A2 c2.length cap2) := cell_of_row _ _ 3 _ _ _ B0
          exact RInv.pure (v := .agg #[.int .u8 k2, .int .i64 n2, .string s2, .slice A2 c2.length cap2]) h hi rfl (wanted_none rfl) (fun _ => trivial) (by intro c; simp) (by simp [execOp, f4, kc0, kc1, kc2, kc3, go_sem]) rfl
        refine AllFrom.cons (fun listed a2 V h hi hd => ?_) ?_
        · obtain ⟨u0, h0, e0⟩ := hd ⟨0, .data⟩ (by simp) rfl
          replace e0 : u0 = .agg #[.int .u8 k1, .int .i64 n1, .string s1, .slice A1 c1.length cap1] := e0
          subst e0
          replace h0 : a2.tmps[46]? = some _ := h0
          obtain ⟨u1, h1, e1⟩ := hd ⟨1, .data⟩ (by simp) rfl
          replace e1 : u1 = .agg #[.int .u8 k2, .int .i64 n2, .string s2, .slice A2 c2.length cap2] := e1
          subst e1
          replace h1 : a2.tmps[47]? = some _ := h1
          refine RInv.enter (f := 28) (args := #[.agg #[.int .u8 k1, .int .i64 n1, .string s1, .slice A1 c1.length cap1], .agg #[.int .u8 k2, .int .i64 n2, .string s2, .slice A2 c2.length cap2]]) h hi rfl (wanted_none rfl) (fun _ => trivial) (by intro c; simp) rfl (by simp [execOp, h0, h1, go_sem]) ?_
          refine (callsIn_wide.2 (equal_any (Tr.mk k1 n1 s1 c1) (Tr.mk k2 n2 s2 c2) _ _ _ (HR1.out.at_ (Nat.le_refl _) h.cw) (HR2.out.at_ (Nat.le_refl _) h.cw))).mono ?_
          rw [HE.out]
          rintro e V2 ⟨rfl, hq1⟩
          exact ⟨_, rfl, h.cw.trans (hq1.mono h.cw.size), Specs.mono hq1, rfl⟩
        refine AllFrom.cons (fun listed a2 V h hi hd => ?_) ?_
        · have f3 : a2.tmps[3]? = some (.pointer (some ⟨w.heap.size, 0, none⟩)) := h.fixed 3 (by intro j hj; unfold eSlot; split <;> omega)
          have B0 := (h.cw.block (w.heap.size) (by omega)).trans bx1
          have kc0 : V.cell? ⟨w.heap.size, 0, none⟩ = some (.int .u8 k1) := cell_of_row _ _ 0 _ _ _ B0
          have kc1 : V.cell? ⟨w.heap.size, 1, none⟩ = some (.int .i64 n1) := cell_of_row _ _ 1 _ _ _ B0
          have kc2 : V.cell? ⟨w.heap.size, 2, none⟩ = some (.string s1) := cell_of_row _ _ 2 _ _ _ B0
          have kc3 : V.cell? ⟨w.heap.size, 3, none⟩ = some (.slice A1 c1.length cap1) := cell_of_row _ _ 3 _ _ _ B0
          exact RInv.pure (v := .agg #[.int .u8 k1, .int .i64 n1, .string s1, .slice A1 c1.length cap1]) h hi rfl (wanted_none rfl) (fun _ => trivial) (by intro c; simp) (by simp [execOp, f3, kc0, kc1, kc2, kc3, go_sem]) rfl
        refine AllFrom.cons (fun listed a2 V h hi hd => ?_) ?_
        · have f4 : a2.tmps[4]? = some (.pointer (some ⟨w.heap.size + 1, 0, none⟩)) := h.fixed 4 (by intro j hj; unfold eSlot; split <;> omega)
          have B0 := (h.cw.block (w.heap.size + 1) (by omega)).trans bx2
          have kc0 : V.cell? ⟨w.heap.size + 1, 0, none⟩ = some (.int .u8 k2) := cell_of_row _ _ 0 _ _ _ B0
          have kc1 : V.cell? ⟨w.heap.size + 1, 1, none⟩ = some (.int .i64 n2) := cell_of_row _ _ 1 _ _ _ B0
          have kc2 : V.cell? ⟨w.heap.size + 1, 2, none⟩ = some (.string s2) := cell_of_row _ _ 2 _ _ _ B0
          have kc3 : V.cell? ⟨w.heap.size + 1, 3, none⟩ = some (.slice A2 c2.length cap2) := cell_of_row _ _ 3 _ _ _ B0
          exact RInv.pure (v := .agg #[.int .u8 k2, .int .i64 n2, .string s2, .slice A2 c2.length cap2]) h hi rfl (wanted_none rfl) (fun _ => trivial) (by intro c; simp) (by simp [execOp, f4, kc0, kc1, kc2, kc3, go_sem]) rfl
        refine AllFrom.cons (fun listed a2 V h hi hd => ?_) ?_
        · obtain ⟨u3, h3, e3⟩ := hd ⟨3, .data⟩ (by simp) rfl
          replace e3 : u3 = .agg #[.int .u8 k1, .int .i64 n1, .string s1, .slice A1 c1.length cap1] := e3
          subst e3
          replace h3 : a2.tmps[49]? = some _ := h3
          obtain ⟨u4, h4, e4⟩ := hd ⟨4, .data⟩ (by simp) rfl
          replace e4 : u4 = .agg #[.int .u8 k2, .int .i64 n2, .string s2, .slice A2 c2.length cap2] := e4
          subst e4
          replace h4 : a2.tmps[50]? = some _ := h4
          refine RInv.enter (f := 26) (args := #[.agg #[.int .u8 k1, .int .i64 n1, .string s1, .slice A1 c1.length cap1], .agg #[.int .u8 k2, .int .i64 n2, .string s2, .slice A2 c2.length cap2]]) h hi rfl (wanted_none rfl) (fun _ => trivial) (by intro c; simp) rfl (by simp [execOp, h3, h4, go_sem]) ?_
          refine (callsIn_wide.2 (rEqual_any (Tr.mk k1 n1 s1 c1) (Tr.mk k2 n2 s2 c2) _ _ _ (HR1.out.at_ (Nat.le_refl _) h.cw) (HR2.out.at_ (Nat.le_refl _) h.cw))).mono ?_
          rw [HE.out]
          rintro e V2 ⟨rfl, hq1⟩
          exact ⟨_, rfl, h.cw.trans (hq1.mono h.cw.size), Specs.mono hq1, rfl⟩
        refine AllFrom.cons (fun listed a2 V h hi hd => ?_) ?_
        · obtain ⟨u2, h2, e2⟩ := hd ⟨2, .data⟩ (by simp) rfl
          replace e2 : u2 = .bool false := e2
          subst e2
          replace h2 : a2.tmps[48]? = some _ := h2
          obtain ⟨u5, h5, e5⟩ := hd ⟨5, .data⟩ (by simp) rfl
          replace e5 : u5 = .bool false := e5
          subst e5
          replace h5 : a2.tmps[51]? = some _ := h5
          exact RInv.pure (v := .bool true) h hi rfl (wanted_none rfl) (fun _ => trivial) (by intro c; simp) (by simp [execOp, h2, h5, go_sem]) rfl
        refine AllFrom.cons (fun listed a2 V h hi hd => ?_) ?_
        · obtain ⟨u6, h6, e6⟩ := hd ⟨6, .data⟩ (by simp) rfl
          replace e6 : u6 = .bool true := e6
          subst e6
          replace h6 : a2.tmps[52]? = some _ := h6
          exact RInv.pure (v := .bool true) h hi rfl (wanted_none rfl) (fun _ => trivial) (by intro c; simp) (by simp [execOp, h6, go_sem]) rfl
        exact trivial
      case fin =>
        rintro a2 V hV hs hdf hfx hph
        obtain ⟨u7, h7, e7⟩ := hph 7 (by omega)
        replace e7 : u7 = .bool true := e7
        subst e7
        replace h7 : a2.tmps[6]? = some _ := h7
        obtain ⟨tm, df⟩ := a2
        have hdf1 : df = [] := hdf
        subst hdf1
        have htm := tm_sets [46, 47, 48, 49, 50, 51, 52, 6] hs (fun t ht => hfx t (fun j hj e => ht (e ▸ (show ∀ j, j < 8 → (eSlot) j ∈ [46, 47, 48, 49, 50, 51, 52, 6] by decide) j hj)))
        simp only [List.foldl_cons, List.foldl_nil, List.setIfInBounds_toArray, List.set_cons_succ, List.set_cons_zero] at htm
        rw [show tm.getD 6 undef = .bool true from by simp only [Array.getD_eq_getD_getElem?, h7, Option.getD_some]] at htm
        clear hs hdf hfx hph h7
        generalize tm.getD 46 undef = y46 at htm
        generalize tm.getD 47 undef = y47 at htm
        generalize tm.getD 48 undef = y48 at htm
        generalize tm.getD 49 undef = y49 at htm
        generalize tm.getD 50 undef = y50 at htm
        generalize tm.getD 51 undef = y51 at htm
        generalize tm.getD 52 undef = y52 at htm
        subst htm
        go_wp2_with fail
        go_ret
        exact ⟨rfl, (HBX.out.trans (HCV.out.mono (by simp; omega))).trans (hV.mono (by omega))⟩
  case true =>
    have HE := Lib.hid he
    have HE3 : Hid (eqB (Tr.mk k1 n1 s1 c1) (Tr.mk k3 n3 s3 c3) = eqB (Tr.mk k2 n2 s2 c2) (Tr.mk k3 n3 s3 c3)) := Lib.hid (by rw [(eqB_iff _ _).1 he])
    clear he
    go_wp2_with fail
    refine wpIn_wide (n := 0) |>.1 (region_all (N := 27) (s := fun i => 19 + i) hmo rfl (by kernel_rfl) (fun V => Below W.heap.size W V) (Specs ([.is (.agg #[.int .u8 k1, .int .i64 n1, .string s1, .slice A1 c1.length cap1]), .is (.agg #[.int .u8 k1, .int .i64 n1, .string s1, .slice A1 c1.length cap1]), .is (.bool true), .is (.bool false), .is (.bool false), .is (.agg #[.int .u8 k1, .int .i64 n1, .string s1, .slice A1 c1.length cap1]), .is (.agg #[.int .u8 k2, .int .i64 n2, .string s2, .slice A2 c2.length cap2]), .is (.bool true), .is (.agg #[.int .u8 k2, .int .i64 n2, .string s2, .slice A2 c2.length cap2]), .is (.agg #[.int .u8 k1, .int .i64 n1, .string s1, .slice A1 c1.length cap1]), .is (.bool true), .is (.bool false), .is (.bool false), .is (.bool false), .is (.agg #[.int .u8 k1, .int .i64 n1, .string s1, .slice A1 c1.length cap1]), .is (.agg #[.int .u8 k2, .int .i64 n2, .string s2, .slice A2 c2.length cap2]), .is (.bool true), .is (.bool true), .is (.agg #[.int .u8 k2, .int .i64 n2, .string s2, .slice A2 c2.length cap2]), .is (.agg #[.int .u8 k3, .int .i64 n3, .string s3, .slice A3 c3.length cap3]), .is (.bool (eqB (Tr.mk k2 n2 s2 c2) (Tr.mk k3 n3 s3 c3))), .is (.agg #[.int .u8 k1, .int .i64 n1, .string s1, .slice A1 c1.length cap1]), .is (.agg #[.int .u8 k3, .int .i64 n3, .string s3, .slice A3 c3.length cap3]), .is (.bool (eqB (Tr.mk k2 n2 s2 c2) (Tr.mk k3 n3 s3 c3))), .is (.bool false), .is (.bool false), .is (.bool false)])) (by intro j hj; simp; omega) (by intro i j _ _ e; simp at e; omega) (Below.refl _ _).drew ?steps ?fin)
    case steps =>
      show AllFrom _ 0 (_ :: _)
      refine AllFrom.cons (fun listed a2 V h hi hd => ?_) ?_
      · have f3 : a2.tmps[3]? = some (.pointer (some ⟨w.heap.size, 0, none⟩)) := h.fixed 3 (by intro j hj; skip; simp; omega)
        have B0 := (h.cw.block (w.heap.size) (by omega)).trans bx1
        have kc0 : V.cell? ⟨w.heap.size, 0, none⟩ = some (.int .u8 k1) := cell_of_row _ _ 0 _ _ _ B0
        have kc1 : V.cell? ⟨w.heap.size, 1, none⟩ = some (.int .i64 n1) := cell_of_row _ _ 1 _ _ _ B0
        have kc2 : V.cell? ⟨w.heap.size, 2, none⟩ = some (.string s1) := cell_of_row _ _ 2 _ _ _ B0
        have kc3 : V.cell? ⟨w.heap.size, 3, none⟩ = some (.slice A1 c1.length cap1) := cell_of_row _ _ 3 _ _ _ B0
        exact RInv.pure (v := .agg #[.int .u8 k1, .int .i64 n1, .string s1, .slice A1 c1.length cap1]) h hi rfl (wanted_none rfl) (fun _ => trivial) (by intro c; simp) (by simp [execOp, f3, kc0, kc1, kc2, kc3, go_sem]) rfl
      refine AllFrom.cons (fun listed a2 V h hi hd => ?_) ?_
      · have f3 : a2.tmps[3]? = some (.pointer (some ⟨w.heap.size, 0, none⟩)) := h.fixed 3 (by intro j hj; skip; simp; omega)
        have B0 := (h.cw.block (w.heap.size) (by omega)).trans bx1
        have kc0 : V.cell? ⟨w.heap.size, 0, none⟩ = some (.int .u8 k1) := cell_of_row _ _ 0 _ _ _ B0
        have kc1 : V.cell? ⟨w.heap.size, 1, none⟩ = some (.int .i64 n1) := cell_of_row _ _ 1 _ _ _ B0
        have kc2 : V.cell? ⟨w.heap.size, 2, none⟩ = some (.string s1) := cell_of_row _ _ 2 _ _ _ B0
        have kc3 : V.cell? ⟨w.heap.size, 3, none⟩ = some (.slice A1 c1.length cap1) := cell_of_row _ _ 3 _ _ _ B0
        exact RInv.pure (v := .agg #[.int .u8 k1, .int .i64 n1, .string s1, .slice A1 c1.length cap1]) h hi rfl (wanted_none rfl) (fun _ => trivial) (by intro c; simp) (by simp [execOp, f3, kc0, kc1, kc2, kc3, go_sem]) rfl
      refine AllFrom.cons (fun listed a2 V h hi hd => ?_) ?_
      · obtain ⟨u0, h0, e0⟩ := hd ⟨0, .data⟩ (by simp) rfl
        replace e0 : u0 = .agg #[.int .u8 k1, .int .i64 n1, .string s1, .slice A1 c1.length cap1] := e0
        subst e0
        replace h0 : a2.tmps[19]? = some _ := h0
        obtain ⟨u1, h1, e1⟩ := hd ⟨1, .data⟩ (by simp) rfl
        replace e1 : u1 = .agg #[.int .u8 k1, .int .i64 n1, .string s1, .slice A1 c1.length cap1] := e1
        subst e1
        replace h1 : a2.tmps[20]? = some _ := h1
        refine RInv.enter (f := 28) (args := #[.agg #[.int .u8 k1, .int .i64 n1, .string s1, .slice A1 c1.length cap1], .agg #[.int .u8 k1, .int .i64 n1, .string s1, .slice A1 c1.length cap1]]) h hi rfl (wanted_none rfl) (fun _ => trivial) (by intro c; simp) rfl (by simp [execOp, h0, h1, go_sem]) ?_
        refine (callsIn_wide.2 (equal_any (Tr.mk k1 n1 s1 c1) (Tr.mk k1 n1 s1 c1) _ _ _ (HR1.out.at_ (Nat.le_refl _) h.cw) (HR1.out.at_ (Nat.le_refl _) h.cw))).mono ?_
        rw [eqB_refl]
        rintro e V2 ⟨rfl, hq1⟩
        exact ⟨_, rfl, h.cw.trans (hq1.mono h.cw.size), Specs.mono hq1, rfl⟩
      refine AllFrom.cons (fun listed a2 V h hi hd => ?_) ?_
      · obtain ⟨u2, h2, e2⟩ := hd ⟨2, .data⟩ (by simp) rfl
        replace e2 : u2 = .bool true := e2
        subst e2
        replace h2 : a2.tmps[21]? = some _ := h2
        exact RInv.pure (v := .bool false) h hi rfl (wanted_none rfl) (fun _ => trivial) (by intro c; simp) (by simp [execOp, h2, go_sem]) rfl
      refine AllFrom.cons (fun listed a2 V h hi hd => ?_) ?_
      · obtain ⟨u3, h3, e3⟩ := hd ⟨3, .data⟩ (by simp) rfl
        replace e3 : u3 = .bool false := e3
        subst e3
        replace h3 : a2.tmps[22]? = some _ := h3
        exact RInv.pure (v := .bool false) h hi rfl (wanted_none rfl) (fun _ => trivial) (by intro c; simp) (by simp [execOp, h3, go_sem]) rfl
      refine AllFrom.cons (fun listed a2 V h hi hd => ?_) ?_
      · obtain ⟨u4, h4, e4⟩ := hd ⟨4, .guard⟩ (by simp) rfl
        replace e4 : u4 = .bool false := e4
        subst e4
        replace h4 : a2.tmps[23]? = some _ := h4
        have f3 : a2.tmps[3]? = some (.pointer (some ⟨w.heap.size, 0, none⟩)) := h.fixed 3 (by intro j hj; skip; simp; omega)
        have B0 := (h.cw.block (w.heap.size) (by omega)).trans bx1
        have kc0 : V.cell? ⟨w.heap.size, 0, none⟩ = some (.int .u8 k1) := cell_of_row _ _ 0 _ _ _ B0
        have kc1 : V.cell? ⟨w.heap.size, 1, none⟩ = some (.int .i64 n1) := cell_of_row _ _ 1 _ _ _ B0
        have kc2 : V.cell? ⟨w.heap.size, 2, none⟩ = some (.string s1) := cell_of_row _ _ 2 _ _ _ B0
        have kc3 : V.cell? ⟨w.heap.size, 3, none⟩ = some (.slice A1 c1.length cap1) := cell_of_row _ _ 3 _ _ _ B0
        exact RInv.pure (v := .agg #[.int .u8 k1, .int .i64 n1, .string s1, .slice A1 c1.length cap1]) h hi rfl (wanted_at rfl rfl h4 rfl) (fun _ => trivial) (by intro c; simp) (by simp [execOp, f3, kc0, kc1, kc2, kc3, go_sem]) rfl
      refine AllFrom.cons (fun listed a2 V h hi hd => ?_) ?_
      · obtain ⟨u4, h4, e4⟩ := hd ⟨4, .guard⟩ (by simp) rfl
        replace e4 : u4 = .bool false := e4
        subst e4
        replace h4 : a2.tmps[23]? = some _ := h4
        have f4 : a2.tmps[4]? = some (.pointer (some ⟨w.heap.size + 1, 0, none⟩)) := h.fixed 4 (by intro j hj; skip; simp; omega)
        have B0 := (h.cw.block (w.heap.size + 1) (by omega)).trans bx2
        have kc0 : V.cell? ⟨w.heap.size + 1, 0, none⟩ = some (.int .u8 k2) := cell_of_row _ _ 0 _ _ _ B0
        have kc1 : V.cell? ⟨w.heap.size + 1, 1, none⟩ = some (.int .i64 n2) := cell_of_row _ _ 1 _ _ _ B0
        have kc2 : V.cell? ⟨w.heap.size + 1, 2, none⟩ = some (.string s2) := cell_of_row _ _ 2 _ _ _ B0
        have kc3 : V.cell? ⟨w.heap.size + 1, 3, none⟩ = some (.slice A2 c2.length cap2) := cell_of_row _ _ 3 _ _ _ B0
        exact RInv.pure (v := .agg #[.int .u8 k2, .int .i64 n2, .string s2, .slice A2 c2.length cap2]) h hi rfl (wanted_at rfl rfl h4 rfl) (fun _ => trivial) (by intro c; simp) (by simp [execOp, f4, kc0, kc1, kc2, kc3, go_sem]) rfl
      refine AllFrom.cons (fun listed a2 V h hi hd => ?_) ?_
      · obtain ⟨u5, h5, e5⟩ := hd ⟨5, .data⟩ (by simp) rfl
        replace e5 : u5 = .agg #[.int .u8 k1, .int .i64 n1, .string s1, .slice A1 c1.length cap1] := e5
        subst e5
        replace h5 : a2.tmps[24]? = some _ := h5
        obtain ⟨u6, h6, e6⟩ := hd ⟨6, .data⟩ (by simp) rfl
        replace e6 : u6 = .agg #[.int .u8 k2, .int .i64 n2, .string s2, .slice A2 c2.length cap2] := e6
        subst e6
        replace h6 : a2.tmps[25]? = some _ := h6
        obtain ⟨u4, h4, e4⟩ := hd ⟨4, .chain⟩ (by simp) rfl
        replace e4 : u4 = .bool false := e4
        subst e4
        replace h4 : a2.tmps[23]? = some _ := h4
        refine RInv.enter (f := 28) (args := #[.agg #[.int .u8 k1, .int .i64 n1, .string s1, .slice A1 c1.length cap1], .agg #[.int .u8 k2, .int .i64 n2, .string s2, .slice A2 c2.length cap2]]) h hi rfl (wanted_at rfl rfl h4 rfl) (fun _ => trivial) (by intro c; simp) rfl (by simp [execOp, h5, h6, go_sem]) ?_
        refine (callsIn_wide.2 (equal_any (Tr.mk k1 n1 s1 c1) (Tr.mk k2 n2 s2 c2) _ _ _ (HR1.out.at_ (Nat.le_refl _) h.cw) (HR2.out.at_ (Nat.le_refl _) h.cw))).mono ?_
        rw [HE.out]
        rintro e V2 ⟨rfl, hq1⟩
        exact ⟨_, rfl, h.cw.trans (hq1.mono h.cw.size), Specs.mono hq1, rfl⟩
      refine AllFrom.cons (fun listed a2 V h hi hd => ?_) ?_
      · obtain ⟨u4, h4, e4⟩ := hd ⟨4, .guard⟩ (by simp) rfl
        replace e4 : u4 = .bool false := e4
        subst e4
        replace h4 : a2.tmps[23]? = some _ := h4
        have f4 : a2.tmps[4]? = some (.pointer (some ⟨w.heap.size + 1, 0, none⟩)) := h.fixed 4 (by intro j hj; skip; simp; omega)
        have B0 := (h.cw.block (w.heap.size + 1) (by omega)).trans bx2
        have kc0 : V.cell? ⟨w.heap.size + 1, 0, none⟩ = some (.int .u8 k2) := cell_of_row _ _ 0 _ _ _ B0
        have kc1 : V.cell? ⟨w.heap.size + 1, 1, none⟩ = some (.int .i64 n2) := cell_of_row _ _ 1 _ _ _ B0
        have kc2 : V.cell? ⟨w.heap.size + 1, 2, none⟩ = some (.string s2) := cell_of_row _ _ 2 _ _ _ B0
        have kc3 : V.cell? ⟨w.heap.size + 1, 3, none⟩ = some (.slice A2 c2.length cap2) := cell_of_row _ _ 3 _ _ _ B0
        exact RInv.pure (v := .agg #[.int .u8 k2, .int .i64 n2, .string s2, .slice A2 c2.length cap2]) h hi rfl (wanted_at rfl rfl h4 rfl) (fun _ => trivial) (by intro c; simp) (by simp [execOp, f4, kc0, kc1, kc2, kc3, go_sem]) rfl
      refine AllFrom.cons (fun listed a2 V h hi hd => ?_) ?_
      · obtain ⟨u4, h4, e4⟩ := hd ⟨4, .guard⟩ (by simp) rfl
        replace e4 : u4 = .bool false := e4
        subst e4
        replace h4 : a2.tmps[23]? = some _ := h4
        have f3 : a2.tmps[3]? = some (.pointer (some ⟨w.heap.size, 0, none⟩)) := h.fixed 3 (by intro j hj; skip; simp; omega)
        have B0 := (h.cw.block (w.heap.size) (by omega)).trans bx1
        have kc0 : V.cell? ⟨w.heap.size, 0, none⟩ = some (.int .u8 k1) := cell_of_row _ _ 0 _ _ _ B0
        have kc1 : V.cell? ⟨w.heap.size, 1, none⟩ = some (.int .i64 n1) := cell_of_row _ _ 1 _ _ _ B0
        have kc2 : V.cell? ⟨w.heap.size, 2, none⟩ = some (.string s1) := cell_of_row _ _ 2 _ _ _ B0
        have kc3 : V.cell? ⟨w.heap.size, 3, none⟩ = some (.slice A1 c1.length cap1) := cell_of_row _ _ 3 _ _ _ B0
        exact RInv.pure (v := .agg #[.int .u8 k1, .int .i64 n1, .string s1, .slice A1 c1.length cap1]) h hi rfl (wanted_at rfl rfl h4 rfl) (fun _ => trivial) (by intro c; simp) (by simp [execOp, f3, kc0, kc1, kc2, kc3, go_sem]) rfl
      refine AllFrom.cons (fun listed a2 V h hi hd => ?_) ?_
      · obtain ⟨u8, h8, e8⟩ := hd ⟨8, .data⟩ (by simp) rfl
        replace e8 : u8 = .agg #[.int .u8 k2, .int .i64 n2, .string s2, .slice A2 c2.length cap2] := e8
        subst e8
        replace h8 : a2.tmps[27]? = some _ := h8
        obtain ⟨u9, h9, e9⟩ := hd ⟨9, .data⟩ (by simp) rfl
        replace e9 : u9 = .agg #[.int .u8 k1, .int .i64 n1, .string s1, .slice A1 c1.length cap1] := e9
        subst e9
        replace h9 : a2.tmps[28]? = some _ := h9
        obtain ⟨u4, h4, e4⟩ := hd ⟨4, .guard⟩ (by simp) rfl
        replace e4 : u4 = .bool false := e4
        subst e4
        replace h4 : a2.tmps[23]? = some _ := h4
        refine RInv.enter (f := 28) (args := #[.agg #[.int .u8 k2, .int .i64 n2, .string s2, .slice A2 c2.length cap2], .agg #[.int .u8 k1, .int .i64 n1, .string s1, .slice A1 c1.length cap1]]) h hi rfl (wanted_at rfl rfl h4 rfl) (fun _ => trivial) (by intro c; simp) rfl (by simp [execOp, h8, h9, go_sem]) ?_
        refine (callsIn_wide.2 (equal_any (Tr.mk k2 n2 s2 c2) (Tr.mk k1 n1 s1 c1) _ _ _ (HR2.out.at_ (Nat.le_refl _) h.cw) (HR1.out.at_ (Nat.le_refl _) h.cw))).mono ?_
        rw [eqB_comm, HE.out]
        rintro e V2 ⟨rfl, hq1⟩
        exact ⟨_, rfl, h.cw.trans (hq1.mono h.cw.size), Specs.mono hq1, rfl⟩
      refine AllFrom.cons (fun listed a2 V h hi hd => ?_) ?_
      · obtain ⟨u7, h7, e7⟩ := hd ⟨7, .data⟩ (by simp) rfl
        replace e7 : u7 = .bool true := e7
        subst e7
        replace h7 : a2.tmps[26]? = some _ := h7
        obtain ⟨u10, h10, e10⟩ := hd ⟨10, .data⟩ (by simp) rfl
        replace e10 : u10 = .bool true := e10
        subst e10
        replace h10 : a2.tmps[29]? = some _ := h10
        obtain ⟨u4, h4, e4⟩ := hd ⟨4, .guard⟩ (by simp) rfl
        replace e4 : u4 = .bool false := e4
        subst e4
        replace h4 : a2.tmps[23]? = some _ := h4
        exact RInv.pure (v := .bool false) h hi rfl (wanted_at rfl rfl h4 rfl) (fun _ => trivial) (by intro c; simp) (by simp [execOp, h7, h10, go_sem]) rfl
      refine AllFrom.cons (fun listed a2 V h hi hd => ?_) ?_
      · obtain ⟨u4, h4, e4⟩ := hd ⟨4, .data⟩ (by simp) rfl
        replace e4 : u4 = .bool false := e4
        subst e4
        replace h4 : a2.tmps[23]? = some _ := h4
        obtain ⟨u11, h11, e11⟩ := hd ⟨11, .data⟩ (by simp) rfl
        replace e11 : u11 = .bool false := e11
        subst e11
        replace h11 : a2.tmps[30]? = some _ := h11
        exact RInv.pure (v := .bool false) h hi rfl (wanted_none rfl) (fun _ => trivial) (by intro c; simp) (by simp [execOp, h4, h11, go_sem]) rfl
      refine AllFrom.cons (fun listed a2 V h hi hd => ?_) ?_
      · obtain ⟨u12, h12, e12⟩ := hd ⟨12, .data⟩ (by simp) rfl
        replace e12 : u12 = .bool false := e12
        subst e12
        replace h12 : a2.tmps[31]? = some _ := h12
        exact RInv.pure (v := .bool false) h hi rfl (wanted_none rfl) (fun _ => trivial) (by intro c; simp) (by simp [execOp, h12, go_sem]) rfl
      refine AllFrom.cons (fun listed a2 V h hi hd => ?_) ?_
      · obtain ⟨u13, h13, e13⟩ := hd ⟨13, .guard⟩ (by simp) rfl
        replace e13 : u13 = .bool false := e13
        subst e13
        replace h13 : a2.tmps[32]? = some _ := h13
        have f3 : a2.tmps[3]? = some (.pointer (some ⟨w.heap.size, 0, none⟩)) := h.fixed 3 (by intro j hj; skip; simp; omega)
        have B0 := (h.cw.block (w.heap.size) (by omega)).trans bx1
        have kc0 : V.cell? ⟨w.heap.size, 0, none⟩ = some (.int .u8 k1) := cell_of_row _ _ 0 _ _ _ B0
        have kc1 : V.cell? ⟨w.heap.size, 1, none⟩ = some (.int .i64 n1) := cell_of_row _ _ 1 _ _ _ B0
        have kc2 : V.cell? ⟨w.heap.size, 2, none⟩ = some (.string s1) := cell_of_row _ _ 2 _ _ _ B0
        have kc3 : V.cell? ⟨w.heap.size, 3, none⟩ = some (.slice A1 c1.length cap1) := cell_of_row _ _ 3 _ _ _ B0
        exact RInv.pure (v := .agg #[.int .u8 k1, .int .i64 n1, .string s1, .slice A1 c1.length cap1]) h hi rfl (wanted_at rfl rfl h13 rfl) (fun _ => trivial) (by intro c; simp) (by simp [execOp, f3, kc0, kc1, kc2, kc3, go_sem]) rfl
      refine AllFrom.cons (fun listed a2 V h hi hd => ?_) ?_
      · obtain ⟨u13, h13, e13⟩ := hd ⟨13, .guard⟩ (by simp) rfl
        replace e13 : u13 = .bool false := e13
        subst e13
        replace h13 : a2.tmps[32]? = some _ := h13
        have f4 : a2.tmps[4]? = some (.pointer (some ⟨w.heap.size + 1, 0, none⟩)) := h.fixed 4 (by intro j hj; skip; simp; omega)
        have B0 := (h.cw.block (w.heap.size + 1) (by omega)).trans bx2
        have kc0 : V.cell? ⟨w.heap.size + 1, 0, none⟩ = some (.int .u8 k2) := cell_of_row _ _ 0 _ _ _ B0
        have kc1 : V.cell? ⟨w.heap.size + 1, 1, none⟩ = some (.int .i64 n2) := cell_of_row _ _ 1 _ _ _ B0
        have kc2 : V.cell? ⟨w.heap.size + 1, 2, none⟩ = some (.string s2) := cell_of_row _ _ 2 _ _ _ B0
        have kc3 : V.cell? ⟨w.heap.size + 1, 3, none⟩ = some (.slice A2 c2.length cap2) := cell_of_row _ _ 3 _ _ _ B0
        exact RInv.pure (v := .agg #[.int .u8 k2, .int .i64 n2, .string s2, .slice A2 c2.length cap2]) h hi rfl (wanted_at rfl rfl h13 rfl) (fun _ => trivial) (by intro c; simp) (by simp [execOp, f4, kc0, kc1, kc2, kc3, go_sem]) rfl
      refine AllFrom.cons (fun listed a2 V h hi hd => ?_) ?_
      · obtain ⟨u14, h14, e14⟩ := hd ⟨14, .data⟩ (by simp) rfl
        replace e14 : u14 = .agg #[.int .u8 k1, .int .i64 n1, .string s1, .slice A1 c1.length cap1] := e14
        subst e14
        replace h14 : a2.tmps[33]? = some _ := h14
        obtain ⟨u15, h15, e15⟩ := hd ⟨15, .data⟩ (by simp) rfl
        replace e15 : u15 = .agg #[.int .u8 k2, .int .i64 n2, .string s2, .slice A2 c2.length cap2] := e15
        subst e15
        replace h15 : a2.tmps[34]? = some _ := h15
        obtain ⟨u13, h13, e13⟩ := hd ⟨13, .chain⟩ (by simp) rfl
        replace e13 : u13 = .bool false := e13
        subst e13
        replace h13 : a2.tmps[32]? = some _ := h13
        refine RInv.enter (f := 28) (args := #[.agg #[.int .u8 k1, .int .i64 n1, .string s1, .slice A1 c1.length cap1], .agg #[.int .u8 k2, .int .i64 n2, .string s2, .slice A2 c2.length cap2]]) h hi rfl (wanted_at rfl rfl h13 rfl) (fun _ => trivial) (by intro c; simp) rfl (by simp [execOp, h14, h15, go_sem]) ?_
        refine (callsIn_wide.2 (equal_any (Tr.mk k1 n1 s1 c1) (Tr.mk k2 n2 s2 c2) _ _ _ (HR1.out.at_ (Nat.le_refl _) h.cw) (HR2.out.at_ (Nat.le_refl _) h.cw))).mono ?_
        rw [HE.out]
        rintro e V2 ⟨rfl, hq1⟩
        exact ⟨_, rfl, h.cw.trans (hq1.mono h.cw.size), Specs.mono hq1, rfl⟩
      refine AllFrom.cons (fun listed a2 V h hi hd => ?_) ?_
      · obtain ⟨u16, h16, e16⟩ := hd ⟨16, .data⟩ (by simp) rfl
        replace e16 : u16 = .bool true := e16
        subst e16
        replace h16 : a2.tmps[35]? = some _ := h16
        obtain ⟨u13, h13, e13⟩ := hd ⟨13, .guard⟩ (by simp) rfl
        replace e13 : u13 = .bool false := e13
        subst e13
        replace h13 : a2.tmps[32]? = some _ := h13
        exact RInv.pure (v := .bool true) h hi rfl (wanted_at rfl rfl h13 rfl) (fun _ => trivial) (by intro c; simp) (by simp [execOp, h16, go_sem]) rfl
      refine AllFrom.cons (fun listed a2 V h hi hd => ?_) ?_
      · obtain ⟨u17, h17, e17⟩ := hd ⟨17, .guard⟩ (by simp) rfl
        replace e17 : u17 = .bool true := e17
        subst e17
        replace h17 : a2.tmps[36]? = some _ := h17
        have f4 : a2.tmps[4]? = some (.pointer (some ⟨w.heap.size + 1, 0, none⟩)) := h.fixed 4 (by intro j hj; skip; simp; omega)
        have B0 := (h.cw.block (w.heap.size + 1) (by omega)).trans bx2
        have kc0 : V.cell? ⟨w.heap.size + 1, 0, none⟩ = some (.int .u8 k2) := cell_of_row _ _ 0 _ _ _ B0
        have kc1 : V.cell? ⟨w.heap.size + 1, 1, none⟩ = some (.int .i64 n2) := cell_of_row _ _ 1 _ _ _ B0
        have kc2 : V.cell? ⟨w.heap.size + 1, 2, none⟩ = some (.string s2) := cell_of_row _ _ 2 _ _ _ B0
        have kc3 : V.cell? ⟨w.heap.size + 1, 3, none⟩ = some (.slice A2 c2.length cap2) := cell_of_row _ _ 3 _ _ _ B0
        exact RInv.pure (v := .agg #[.int .u8 k2, .int .i64 n2, .string s2, .slice A2 c2.length cap2]) h hi rfl (wanted_at rfl rfl h17 rfl) (fun _ => trivial) (by intro c; simp) (by simp [execOp, f4, kc0, kc1, kc2, kc3, go_sem]) rfl
      refine AllFrom.cons (fun listed a2 V h hi hd => ?_) ?_
      · obtain ⟨u17, h17, e17⟩ := hd ⟨17, .guard⟩ (by simp) rfl
        replace e17 : u17 = .bool true := e17
        subst e17
        replace h17 : a2.tmps[36]? = some _ := h17
        have f5 : a2.tmps[5]? = some (.pointer (some ⟨w.heap.size + 2, 0, none⟩)) := h.fixed 5 (by intro j hj; skip; simp; omega)
        have B0 := (h.cw.block (w.heap.size + 2) (by omega)).trans bx3
        have kc0 : V.cell? ⟨w.heap.size + 2, 0, none⟩ = some (.int .u8 k3) := cell_of_row _ _ 0 _ _ _ B0
        have kc1 : V.cell? ⟨w.heap.size + 2, 1, none⟩ = some (.int .i64 n3) := cell_of_row _ _ 1 _ _ _ B0
        have kc2 : V.cell? ⟨w.heap.size + 2, 2, none⟩ = some (.string s3) := cell_of_row _ _ 2 _ _ _ B0
        have kc3 : V.cell? ⟨w.heap.size + 2, 3, none⟩ = some (.slice A3 c3.length cap3) := cell_of_row _ _ 3 _ _ _ B0
        exact RInv.pure (v := .agg #[.int .u8 k3, .int .i64 n3, .string s3, .slice A3 c3.length cap3]) h hi rfl (wanted_at rfl rfl h17 rfl) (fun _ => trivial) (by intro c; simp) (by simp [execOp, f5, kc0, kc1, kc2, kc3, go_sem]) rfl
      refine AllFrom.cons (fun listed a2 V h hi hd => ?_) ?_
      · obtain ⟨u18, h18, e18⟩ := hd ⟨18, .data⟩ (by simp) rfl
        replace e18 : u18 = .agg #[.int .u8 k2, .int .i64 n2, .string s2, .slice A2 c2.length cap2] := e18
        subst e18
        replace h18 : a2.tmps[37]? = some _ := h18
        obtain ⟨u19, h19, e19⟩ := hd ⟨19, .data⟩ (by simp) rfl
        replace e19 : u19 = .agg #[.int .u8 k3, .int .i64 n3, .string s3, .slice A3 c3.length cap3] := e19
        subst e19
        replace h19 : a2.tmps[38]? = some _ := h19
        obtain ⟨u17, h17, e17⟩ := hd ⟨17, .chain⟩ (by simp) rfl
        replace e17 : u17 = .bool true := e17
        subst e17
        replace h17 : a2.tmps[36]? = some _ := h17
        refine RInv.enter (f := 28) (args := #[.agg #[.int .u8 k2, .int .i64 n2, .string s2, .slice A2 c2.length cap2], .agg #[.int .u8 k3, .int .i64 n3, .string s3, .slice A3 c3.length cap3]]) h hi rfl (wanted_at rfl rfl h17 rfl) (fun _ => trivial) (by intro c; simp) rfl (by simp [execOp, h18, h19, go_sem]) ?_
        refine (callsIn_wide.2 (equal_any (Tr.mk k2 n2 s2 c2) (Tr.mk k3 n3 s3 c3) _ _ _ (HR2.out.at_ (Nat.le_refl _) h.cw) (HR3.out.at_ (Nat.le_refl _) h.cw))).mono ?_
        rintro e V2 ⟨rfl, hq1⟩
        exact ⟨_, rfl, h.cw.trans (hq1.mono h.cw.size), Specs.mono hq1, rfl⟩
      refine AllFrom.cons (fun listed a2 V h hi hd => ?_) ?_
      · obtain ⟨u17, h17, e17⟩ := hd ⟨17, .guard⟩ (by simp) rfl
        replace e17 : u17 = .bool true := e17
        subst e17
        replace h17 : a2.tmps[36]? = some _ := h17
        have f3 : a2.tmps[3]? = some (.pointer (some ⟨w.heap.size, 0, none⟩)) := h.fixed 3 (by intro j hj; skip; simp; omega)
        have B0 := (h.cw.block (w.heap.size) (by omega)).trans bx1
        have kc0 : V.cell? ⟨w.heap.size, 0, none⟩ = some (.int .u8 k1) := cell_of_row _ _ 0 _ _ _ B0
        have kc1 : V.cell? ⟨w.heap.size, 1, none⟩ = some (.int .i64 n1) := cell_of_row _ _ 1 _ _ _ B0
        have kc2 : V.cell? ⟨w.heap.size, 2, none⟩ = some (.string s1) := cell_of_row _ _ 2 _ _ _ B0
        have kc3 : V.cell? ⟨w.heap.size, 3, none⟩ = some (.slice A1 c1.length cap1) := cell_of_row _ _ 3 _ _ _ B0
        exact RInv.pure (v := .agg #[.int .u8 k1, .int .i64 n1, .string s1, .slice A1 c1.length cap1]) h hi rfl (wanted_at rfl rfl h17 rfl) (fun _ => trivial) (by intro c; simp) (by simp [execOp, f3, kc0, kc1, kc2, kc3, go_sem]) rfl
      refine AllFrom.cons (fun listed a2 V h hi hd => ?_) ?_
      · obtain ⟨u17, h17, e17⟩ := hd ⟨17, .guard⟩ (by simp) rfl
        replace e17 : u17 = .bool true := e17
        subst e17
        replace h17 : a2.tmps[36]? = some _ := h17
        have f5 : a2.tmps[5]? = some (.pointer (some ⟨w.heap.size + 2, 0, none⟩)) := h.fixed 5 (by intro j hj; skip; simp; omega)
        have B0 := (h.cw.block (w.heap.size + 2) (by omega)).trans bx3
        have kc0 : V.cell? ⟨w.heap.size + 2, 0, none⟩ = some (.int .u8 k3) := cell_of_row _ _ 0 _ _ _ B0
        have kc1 : V.cell? ⟨w.heap.size + 2, 1, none⟩ = some (.int .i64 n3) := cell_of_row _ _ 1 _ _ _ B0
        have kc2 : V.cell? ⟨w.heap.size + 2, 2, none⟩ = some (.string s3) := cell_of_row _ _ 2 _ _ _ B0
        have kc3 : V.cell? ⟨w.heap.size + 2, 3, none⟩ = some (.slice A3 c3.length cap3) := cell_of_row _ _ 3 _ _ _ B0
        exact RInv.pure (v := .agg #[.int .u8 k3, .int .i64 n3, .string s3, .slice A3 c3.length cap3]) h hi rfl (wanted_at rfl rfl h17 rfl) (fun _ => trivial) (by intro c; simp) (by simp [execOp, f5, kc0, kc1, kc2, kc3, go_sem]) rfl
      refine AllFrom.cons (fun listed a2 V h hi hd => ?_) ?_
      · obtain ⟨u21, h21, e21⟩ := hd ⟨21, .data⟩ (by simp) rfl
        replace e21 : u21 = .agg #[.int .u8 k1, .int .i64 n1, .string s1, .slice A1 c1.length cap1] := e21
        subst e21
        replace h21 : a2.tmps[40]? = some _ := h21
        obtain ⟨u22, h22, e22⟩ := hd ⟨22, .data⟩ (by simp) rfl
        replace e22 : u22 = .agg #[.int .u8 k3, .int .i64 n3, .string s3, .slice A3 c3.length cap3] := e22
        subst e22
        replace h22 : a2.tmps[41]? = some _ := h22
        obtain ⟨u17, h17, e17⟩ := hd ⟨17, .guard⟩ (by simp) rfl
        replace e17 : u17 = .bool true := e17
        subst e17
        replace h17 : a2.tmps[36]? = some _ := h17
        refine RInv.enter (f := 28) (args := #[.agg #[.int .u8 k1, .int .i64 n1, .string s1, .slice A1 c1.length cap1], .agg #[.int .u8 k3, .int .i64 n3, .string s3, .slice A3 c3.length cap3]]) h hi rfl (wanted_at rfl rfl h17 rfl) (fun _ => trivial) (by intro c; simp) rfl (by simp [execOp, h21, h22, go_sem]) ?_
        refine (callsIn_wide.2 (equal_any (Tr.mk k1 n1 s1 c1) (Tr.mk k3 n3 s3 c3) _ _ _ (HR1.out.at_ (Nat.le_refl _) h.cw) (HR3.out.at_ (Nat.le_refl _) h.cw))).mono ?_
        rw [HE3.out]
        rintro e V2 ⟨rfl, hq1⟩
        exact ⟨_, rfl, h.cw.trans (hq1.mono h.cw.size), Specs.mono hq1, rfl⟩
      refine AllFrom.cons (fun listed a2 V h hi hd => ?_) ?_
      · obtain ⟨u20, h20, e20⟩ := hd ⟨20, .data⟩ (by simp) rfl
        replace e20 : u20 = .bool (eqB (Tr.mk k2 n2 s2 c2) (Tr.mk k3 n3 s3 c3)) := e20
        subst e20
        replace h20 : a2.tmps[39]? = some _ := h20
        obtain ⟨u23, h23, e23⟩ := hd ⟨23, .data⟩ (by simp) rfl
        replace e23 : u23 = .bool (eqB (Tr.mk k2 n2 s2 c2) (Tr.mk k3 n3 s3 c3)) := e23
        subst e23
        replace h23 : a2.tmps[42]? = some _ := h23
        obtain ⟨u17, h17, e17⟩ := hd ⟨17, .guard⟩ (by simp) rfl
        replace e17 : u17 = .bool true := e17
        subst e17
        replace h17 : a2.tmps[36]? = some _ := h17
        exact RInv.pure (v := .bool false) h hi rfl (wanted_at rfl rfl h17 rfl) (fun _ => trivial) (by intro c; simp) (by simp [execOp, h20, h23, go_sem]) rfl
      refine AllFrom.cons (fun listed a2 V h hi hd => ?_) ?_
      · obtain ⟨u17, h17, e17⟩ := hd ⟨17, .data⟩ (by simp) rfl
        replace e17 : u17 = .bool true := e17
        subst e17
        replace h17 : a2.tmps[36]? = some _ := h17
        obtain ⟨u24, h24, e24⟩ := hd ⟨24, .data⟩ (by simp) rfl
        replace e24 : u24 = .bool false := e24
        subst e24
        replace h24 : a2.tmps[43]? = some _ := h24
        obtain ⟨u13, h13, e13⟩ := hd ⟨13, .guard⟩ (by simp) rfl
        replace e13 : u13 = .bool false := e13
        subst e13
        replace h13 : a2.tmps[32]? = some _ := h13
        exact RInv.pure (v := .bool false) h hi rfl (wanted_at rfl rfl h13 rfl) (fun _ => trivial) (by intro c; simp) (by simp [execOp, h17, h24, go_sem]) rfl
      refine AllFrom.cons (fun listed a2 V h hi hd => ?_) ?_
      · obtain ⟨u13, h13, e13⟩ := hd ⟨13, .data⟩ (by simp) rfl
        replace e13 : u13 = .bool false := e13
        subst e13
        replace h13 : a2.tmps[32]? = some _ := h13
        obtain ⟨u25, h25, e25⟩ := hd ⟨25, .data⟩ (by simp) rfl
        replace e25 : u25 = .bool false := e25
        subst e25
        replace h25 : a2.tmps[44]? = some _ := h25
        exact RInv.pure (v := .bool false) h hi rfl (wanted_none rfl) (fun _ => trivial) (by intro c; simp) (by simp [execOp, h13, h25, go_sem]) rfl
      exact trivial
    case fin =>
      rintro a2 V hV hs hdf hfx hph
      obtain ⟨u26, h26, e26⟩ := hph 26 (by omega)
      replace e26 : u26 = .bool false := e26
      subst e26
      replace h26 : a2.tmps[45]? = some _ := h26
      obtain ⟨tm, df⟩ := a2
      have hdf1 : df = [] := hdf
      subst hdf1
      have htm := tm_sets [19, 20, 21, 22, 23, 24, 25, 26, 27, 28, 29, 30, 31, 32, 33, 34, 35, 36, 37, 38, 39, 40, 41, 42, 43, 44, 45] hs (fun t ht => hfx t (fun j hj e => ht (e ▸ (show ∀ j, j < 27 → (fun i => 19 + i) j ∈ [19, 20, 21, 22, 23, 24, 25, 26, 27, 28, 29, 30, 31, 32, 33, 34, 35, 36, 37, 38, 39, 40, 41, 42, 43, 44, 45] by decide) j hj)))
      simp only [List.foldl_cons, List.foldl_nil, List.setIfInBounds_toArray, List.set_cons_succ, List.set_cons_zero] at htm
      rw [show tm.getD 45 undef = .bool false from by simp only [Array.getD_eq_getD_getElem?, h26, Option.getD_some]] at htm
      clear hs hdf hfx hph h26
      generalize tm.getD 19 undef = y19 at htm
      generalize tm.getD 20 undef = y20 at htm
      generalize tm.getD 21 undef = y21 at htm
      generalize tm.getD 22 undef = y22 at htm
      generalize tm.getD 23 undef = y23 at htm
      generalize tm.getD 24 undef = y24 at htm
      generalize tm.getD 25 undef = y25 at htm
      generalize tm.getD 26 undef = y26 at htm
      generalize tm.getD 27 undef = y27 at htm
      generalize tm.getD 28 undef = y28 at htm
      generalize tm.getD 29 undef = y29 at htm
      generalize tm.getD 30 undef = y30 at htm
      generalize tm.getD 31 undef = y31 at htm
      generalize tm.getD 32 undef = y32 at htm
      generalize tm.getD 33 undef = y33 at htm
      generalize tm.getD 34 undef = y34 at htm
      generalize tm.getD 35 undef = y35 at htm
      generalize tm.getD 36 undef = y36 at htm
      generalize tm.getD 37 undef = y37 at htm
      generalize tm.getD 38 undef = y38 at htm
      generalize tm.getD 39 undef = y39 at htm
      generalize tm.getD 40 undef = y40 at htm
      generalize tm.getD 41 undef = y41 at htm
      generalize tm.getD 42 undef = y42 at htm
      generalize tm.getD 43 undef = y43 at htm
      generalize tm.getD 44 undef = y44 at htm
      subst htm
      have hcV := HCW.out.trans (hV.mono HCW.out.size)
      have hzV := hcV.size
      simp only [World.size_alloc] at hzV
      obtain ⟨bx1, bx2, bx3⟩ := three_boxes hcV
      have HR1 := Lib.hid (HR1.out.at_ (Nat.le_refl _) hV)
      have HR2 := Lib.hid (HR2.out.at_ (Nat.le_refl _) hV)
      have HR3 := Lib.hid (HR3.out.at_ (Nat.le_refl _) hV)
      have HCV := Lib.hid hcV
      clear hV hcV
      go_wp2_with fail
      refine wpIn_wide (n := 0) |>.1 (region_all (N := 8) (s := eSlot) hmo rfl (by kernel_rfl) (fun U => Below V.heap.size V U) (Specs ([.is (.agg #[.int .u8 k1, .int .i64 n1, .string s1, .slice A1 c1.length cap1]), .is (.agg #[.int .u8 k2, .int .i64 n2, .string s2, .slice A2 c2.length cap2]), .is (.bool true), .is (.agg #[.int .u8 k1, .int .i64 n1, .string s1, .slice A1 c1.length cap1]), .is (.agg #[.int .u8 k2, .int .i64 n2, .string s2, .slice A2 c2.length cap2]), .is (.bool true), .is (.bool true), .is (.bool true)])) (by intro j hj; unfold eSlot; simp; split <;> omega) (by intro i j _ _ e; unfold eSlot at e; split at e <;> split at e <;> omega) (Below.refl _ _).drew ?steps ?fin)
      case steps =>
        show AllFrom _ 0 (_ :: _)
        refine AllFrom.cons (fun listed a2 V h hi hd => ?_) ?_
        · have f3 : a2.tmps[3]? = some (.pointer (some ⟨w.heap.size, 0, none⟩)) := h.fixed 3 (by intro j hj; unfold eSlot; split <;> omega)
          have B0 := (h.cw.block (w.heap.size) (by omega)).trans bx1
          have kc0 : V.cell? ⟨w.heap.size, 0, none⟩ = some (.int .u8 k1) := cell_of_row _ _ 0 _ _ _ B0
          have kc1 : V.cell? ⟨w.heap.size, 1, none⟩ = some (.int .i64 n1) := cell_of_row _ _ 1 _ _ _ B0
          have kc2 : V.cell? ⟨w.heap.size, 2, none⟩ = some (.string s1) := cell_of_row _ _ 2 _ _ _ B0
          have kc3 : V.cell? ⟨w.heap.size, 3, none⟩ = some (.slice A1 c1.length cap1) := cell_of_row _ _ 3 _ _ _ B0
          exact RInv.pure (v := .agg #[.int .u8 k1, .int .i64 n1, .string s1, .slice A1 c1.length cap1]) h hi rfl (wanted_none rfl) (fun _ => trivial) (by intro c; simp) (by simp [execOp, f3, kc0, kc1, kc2, kc3, go_sem]) rfl
        refine AllFrom.cons (fun listed a2 V h hi hd => ?_) ?_
        · have f4 : a2.tmps[4]? = some (.pointer (some ⟨w.heap.size + 1, 0, none⟩)) := h.fixed 4 (by intro j hj; unfold eSlot; split <;> omega)
          have B0 := (h.cw.block (w.heap.size + 1) (by omega)).trans bx2
          have kc0 : V.cell? ⟨w.heap.size + 1, 0, none⟩ = some (.int .u8 k2) := cell_of_row _ _ 0 _ _ _ B0
          have kc1 : V.cell? ⟨w.heap.size + 1, 1, none⟩ = some (.int .i64 n2) := cell_of_row _ _ 1 _ _ _ B0
          have kc2 : V.cell? ⟨w.heap.size + 1, 2, none⟩ = some (.string s2) := cell_of_row _ _ 2 _ _ _ B0
          have kc3 : V.cell? ⟨w.heap.size + 1, 3, none⟩ = some (.slice A2 c2.length cap2) := cell_of_row _ _ 3 _ _ _ B0
          exact RInv.pure (v := .agg #[.int .u8 k2, .int .i64 n2, .string s2, .slice A2 c2.length cap2]) h hi rfl (wanted_none rfl) (fun _ => trivial) (by intro c; simp) (by simp [execOp, f4, kc0, kc1, kc2, kc3, go_sem]) rfl
        refine AllFrom.cons (fun listed a2 V h hi hd => ?_) ?_
        · obtain ⟨u0, h0, e0⟩ := hd ⟨0, .data⟩ (by simp) rfl
          replace e0 : u0 = .agg #[.int .u8 k1, .int .i64 n1, .string s1, .slice A1 c1.length cap1] := e0
          subst e0
          replace h0 : a2.tmps[46]? = some _ := h0
          obtain ⟨u1, h1, e1⟩ := hd ⟨1, .data⟩ (by simp) rfl
          replace e1 : u1 = .agg #[.int .u8 k2, .int .i64 n2, .string s2, .slice A2 c2.length cap2] := e1
          subst e1
          replace h1 : a2.tmps[47]? = some _ := h1
          refine RInv.enter (f := 28) (args := #[.agg #[.int .u8 k1, .int .i64 n1, .string s1, .slice A1 c1.length cap1], .agg #[.int .u8 k2, .int .i64 n2, .string s2, .slice A2 c2.length cap2]]) h hi rfl (wanted_none rfl) (fun _ => trivial) (by intro c; simp) rfl (by simp [execOp, h0, h1, go_sem]) ?_
          refine (callsIn_wide.2 (equal_any (Tr.mk k1 n1 s1 c1) (Tr.mk k2 n2 s2 c2) _ _ _ (HR1.out.at_ (Nat.le_refl _) h.cw) (HR2.out.at_ (Nat.le_refl _) h.cw))).mono ?_
          rw [HE.out]
          rintro e V2 ⟨rfl, hq1⟩
          exact ⟨_, rfl, h.cw.trans (hq1.mono h.cw.size), Specs.mono hq1, rfl⟩
        refine AllFrom.cons (fun listed a2 V h hi hd => ?_) ?_
        · have f3 : a2.tmps[3]? = some (.pointer (some ⟨w.heap.size, 0, none⟩)) := h.fixed 3 (by intro j hj; unfold eSlot; split <;> omega)
          have B0 := (h.cw.block (w.heap.size) (by omega)).trans bx1
          have kc0 : V.cell? ⟨w.heap.size, 0, none⟩ = some (.int .u8 k1) := cell_of_row _ _ 0 _ _ _ B0
          have kc1 : V.cell? ⟨w.heap.size, 1, none⟩ = some (.int .i64 n1) := cell_of_row _ _ 1 _ _ _ B0
          have kc2 : V.cell? ⟨w.heap.size, 2, none⟩ = some (.string s1) := cell_of_row _ _ 2 _ _ _ B0
          have kc3 : V.cell? ⟨w.heap.size, 3, none⟩ = some (.slice A1 c1.length cap1) := cell_of_row _ _ 3 _ _ _ B0
          exact RInv.pure (v := .agg #[.int .u8 k1, .int .i64 n1, .string s1, .slice A1 c1.length cap1]) h hi rfl (wanted_none rfl) (fun _ => trivial) (by intro c; simp) (by simp [execOp, f3, kc0, kc1, kc2, kc3, go_sem]) rfl
        refine AllFrom.cons (fun listed a2 V h hi hd => ?_) ?_
        · have f4 : a2.tmps[4]? = some (.pointer (some ⟨w.heap.size + 1, 0, none⟩)) := h.fixed 4 (by intro j hj; unfold eSlot; split <;> omega)
          have B0 := (h.cw.block (w.heap.size + 1) (by omega)).trans bx2
          have kc0 : V.cell? ⟨w.heap.size + 1, 0, none⟩ = some (.int .u8 k2) := cell_of_row _ _ 0 _ _ _ B0
          have kc1 : V.cell? ⟨w.heap.size + 1, 1, none⟩ = some (.int .i64 n2) := cell_of_row _ _ 1 _ _ _ B0
          have kc2 : V.cell? ⟨w.heap.size + 1, 2, none⟩ = some (.string s2) := cell_of_row _ _ 2 _ _ _ B0
          have kc3 : V.cell? ⟨w.heap.size + 1, 3, none⟩ = some (.slice A2 c2.length cap2) := cell_of_row _ _ 3 _ _ _ B0
          exact RInv.pure (v := .agg #[.int .u8 k2, .int .i64 n2, .string s2, .slice A2 c2.length cap2]) h hi rfl (wanted_none rfl) (fun _ => trivial) (by intro c; simp) (by simp [execOp, f4, kc0, kc1, kc2, kc3, go_sem]) rfl
        refine AllFrom.cons (fun listed a2 V h hi hd => ?_) ?_
        · obtain ⟨u3, h3, e3⟩ := hd ⟨3, .data⟩ (by simp) rfl
          replace e3 : u3 = .agg #[.int .u8 k1, .int .i64 n1, .string s1, .slice A1 c1.length cap1] := e3
          subst e3
          replace h3 : a2.tmps[49]? = some _ := h3
          obtain ⟨u4, h4, e4⟩ := hd ⟨4, .data⟩ (by simp) rfl
          replace e4 : u4 = .agg #[.int .u8 k2, .int .i64 n2, .string s2, .slice A2 c2.length cap2] := e4
          subst e4
          replace h4 : a2.tmps[50]? = some _ := h4
          refine RInv.enter (f := 26) (args := #[.agg #[.int .u8 k1, .int .i64 n1, .string s1, .slice A1 c1.length cap1], .agg #[.int .u8 k2, .int .i64 n2, .string s2, .slice A2 c2.length cap2]]) h hi rfl (wanted_none rfl) (fun _ => trivial) (by intro c; simp) rfl (by simp [execOp, h3, h4, go_sem]) ?_
          refine (callsIn_wide.2 (rEqual_any (Tr.mk k1 n1 s1 c1) (Tr.mk k2 n2 s2 c2) _ _ _ (HR1.out.at_ (Nat.le_refl _) h.cw) (HR2.out.at_ (Nat.le_refl _) h.cw))).mono ?_
          rw [HE.out]
          rintro e V2 ⟨rfl, hq1⟩
          exact ⟨_, rfl, h.cw.trans (hq1.mono h.cw.size), Specs.mono hq1, rfl⟩
        refine AllFrom.cons (fun listed a2 V h hi hd => ?_) ?_
        · obtain ⟨u2, h2, e2⟩ := hd ⟨2, .data⟩ (by simp) rfl
          replace e2 : u2 = .bool true := e2
          subst e2
          replace h2 : a2.tmps[48]? = some _ := h2
          obtain ⟨u5, h5, e5⟩ := hd ⟨5, .data⟩ (by simp) rfl
          replace e5 : u5 = .bool true := e5
          subst e5
          replace h5 : a2.tmps[51]? = some _ := h5
          exact RInv.pure (v := .bool true) h hi rfl (wanted_none rfl) (fun _ => trivial) (by intro c; simp) (by simp [execOp, h2, h5, go_sem]) rfl
        refine AllFrom.cons (fun listed a2 V h hi hd => ?_) ?_
        · obtain ⟨u6, h6, e6⟩ := hd ⟨6, .data⟩ (by simp) rfl
          replace e6 : u6 = .bool true := e6
          subst e6
          replace h6 : a2.tmps[52]? = some _ := h6
          exact RInv.pure (v := .bool true) h hi rfl (wanted_none rfl) (fun _ => trivial) (by intro c; simp) (by simp [execOp, h6, go_sem]) rfl
        exact trivial
      case fin =>
        rintro a2 V hV hs hdf hfx hph
        obtain ⟨u7, h7, e7⟩ := hph 7 (by omega)
        replace e7 : u7 = .bool true := e7
        subst e7
        replace h7 : a2.tmps[6]? = some _ := h7
        obtain ⟨tm, df⟩ := a2
        have hdf1 : df = [] := hdf
        subst hdf1
        have htm := tm_sets [46, 47, 48, 49, 50, 51, 52, 6] hs (fun t ht => hfx t (fun j hj e => ht (e ▸ (show ∀ j, j < 8 → (eSlot) j ∈ [46, 47, 48, 49, 50, 51, 52, 6] by decide) j hj)))
        simp only [List.foldl_cons, List.foldl_nil, List.setIfInBounds_toArray, List.set_cons_succ, List.set_cons_zero] at htm
        rw [show tm.getD 6 undef = .bool true from by simp only [Array.getD_eq_getD_getElem?, h7, Option.getD_some]] at htm
        clear hs hdf hfx hph h7
        generalize tm.getD 46 undef = y46 at htm
        generalize tm.getD 47 undef = y47 at htm
        generalize tm.getD 48 undef = y48 at htm
        generalize tm.getD 49 undef = y49 at htm
        generalize tm.getD 50 undef = y50 at htm
        generalize tm.getD 51 undef = y51 at htm
        generalize tm.getD 52 undef = y52 at htm
        subst htm
        go_wp2_with fail
        go_ret
        exact ⟨rfl, (HBX.out.trans (HCV.out.mono (by simp; omega))).trans (hV.mono (by omega))⟩

end Go.Proofs.Ytkngdmilgfgclaa
