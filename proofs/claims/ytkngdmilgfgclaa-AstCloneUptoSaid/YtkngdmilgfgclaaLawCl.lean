/- The walk of the law AstClone. -/
import Derived.Test.YtkngdmilgfgclaaAwake2
import Derived.Test.YtkngdmilgfgclaaREq
import Derived.Test.YtkngdmilgfgclaaScr
namespace Go.Proofs.Ytkngdmilgfgclaa
open Go.RowKit Go.Shelf

theorem Scr.below {X : Nat → Prop} {m B : Nat} {w w' : World} (h : Scr X m w w') (hX : ∀ b, X b → B ≤ b) : Below B w w' :=
  ⟨h.os, h.tape, h.output, Nat.le_of_eq h.size.symm, fun b hb => h.other b (fun q => by have := hX b q; omega)⟩

set_option maxRecDepth 100000 in
set_option maxHeartbeats 2000000 in
theorem astClone_any (t : Tr) (v1 pv : Value) (w : World) (hr1 : Rep w w.heap.size t v1) (hn : t.names 1048576) :
    Calls Try.prog 6 #[v1, pv] w fun e w' => e = .returned (.bool true) ∧ Below w.heap.size w w' := by
  have hmo : Try.prog.follows .mixedOrders = true := by kernel_rfl
  obtain ⟨k, n, s, c⟩ := t
  have hr1' := hr1
  simp only [Rep] at hr1'
  obtain ⟨A1, cap1, rfl, _, _⟩ := hr1'
  unfold nodeV at *
  have hbx : Below w.heap.size w (w.alloc (.cells #[.int .u8 k, .int .i64 n, .string s, .slice A1 c.length cap1] 24)) := (Below.refl _ _).alloc (Nat.le_refl _) _
  have HQ := Lib.hid (hr1.at_ (Nat.le_refl _) hbx)
  have HR := Lib.hid hr1
  have HN := Lib.hid hn
  have hnew := heap_alloc_new w (.cells #[.int .u8 k, .int .i64 n, .string s, .slice A1 c.length cap1] 24)
  have HBX := Lib.hid hbx
  clear hr1 hbx hn
  go_enter Try.func6, Try.ntmps6
  go_wp2_with fail
  refine (awake_any _).mono ?_
  rintro e w1 ⟨rfl, hb⟩
  have HCw1 := Lib.hid hb
  have bx1 := (hb.block w.heap.size (by simp)).trans hnew
  obtain ⟨xa0, xa1, xa2, xa3⟩ := four_at bx1
  clear hb
  go_wp2_with fail
  refine (big_any (Tr.mk k n s c) _ _ (HQ.out.at_ (Nat.le_refl _) HCw1.out)).mono ?_
  rintro e w2 ⟨rfl, hb⟩
  have HCw2 := Lib.hid (HCw1.out.trans (hb.mono HCw1.out.size))
  clear xa0 xa1 xa2 xa3 bx1
  have bx1 := (HCw2.out.block w.heap.size (by simp)).trans hnew
  obtain ⟨xa0, xa1, xa2, xa3⟩ := four_at bx1
  clear hb
  cases hg : bigB (Tr.mk k n s c)
  case true =>
    go_wp2_with fail
    go_ret
    exact ⟨rfl, HBX.out.trans (HCw2.out.mono (by simp))⟩
  case false =>
    have hsz := bigB_no hg
    have hsz2 := HCw2.out.size
    simp only [World.size_alloc] at hsz2
    go_wp2_with fail
    refine (copy_typed (Tr.mk k n s c) _ _ (HQ.out.at_ (Nat.le_refl _) HCw2.out) (by omega)).mono ?_
    rintro e w3 ⟨v2, rfl, hr2, hb3⟩
    obtain ⟨A2, cap2, rfl, _, _⟩ := nodeOf hr2
    unfold nodeV at *
    simp only [Tr.kind, Tr.num, Tr.name, Tr.kids] at *
    have hsz3 := hb3.size
    have HR2P := Lib.hid hr2
    have HB3 := Lib.hid hb3
    clear hr2 hb3 xa0 xa1 xa2 xa3
    go_wp2_with fail
    refine (clone_any (Tr.mk k n s c) _ _ ((HR2P.out.lt (fun b q => q.2.1)).alloc (Nat.le_refl _) _) (by omega)).mono ?_
    rintro e w4 ⟨v3, rfl, hr3, hb4⟩
    obtain ⟨A3, cap3, rfl, _, _⟩ := nodeOf hr3
    unfold nodeV at *
    simp only [Tr.kind, Tr.num, Tr.name, Tr.kids] at *
    have hsz4 := hb4.size
    simp only [World.size_alloc] at hsz4
    have HR3P := Lib.hid hr3
    have HB4 := Lib.hid hb4
    clear hr3 hb4
    go_wp2_with fail
    have b34 : Below w3.heap.size w3 (w4.alloc (.cells #[.int .u8 k, .int .i64 n, .string s, .slice A3 c.length cap3] 24)) := (((Below.refl _ w3).alloc (Nat.le_refl _) (.cells #[.int .u8 k, .int .i64 n, .string s, .slice A2 c.length cap2] 24)).trans (HB4.out.mono (by simp))).alloc (by omega) _
    have b2W : Below w2.heap.size w2 (w4.alloc (.cells #[.int .u8 k, .int .i64 n, .string s, .slice A3 c.length cap3] 24)) := HB3.out.trans (b34.mono hsz3)
    replace bx1 := (b2W.block w.heap.size (by omega)).trans bx1
    have bx2 : (w4.alloc (.cells #[.int .u8 k, .int .i64 n, .string s, .slice A3 c.length cap3] 24)).heap[w3.heap.size]? = some (.cells #[.int .u8 k, .int .i64 n, .string s, .slice A2 c.length cap2] 24 (0, 0)) := (Below.heap_alloc _ _ _ (by omega)).trans ((HB4.out.block w3.heap.size (by simp)).trans (heap_alloc_new w3 _))
    have bx3 : (w4.alloc (.cells #[.int .u8 k, .int .i64 n, .string s, .slice A3 c.length cap3] 24)).heap[w4.heap.size]? = some (.cells #[.int .u8 k, .int .i64 n, .string s, .slice A3 c.length cap3] 24 (0, 0)) := heap_alloc_new w4 _
    have HR1 := Lib.hid ((HQ.out.at_ (Nat.le_refl _) HCw2.out).at_ (Nat.le_refl _) b2W)
    have HR2 := Lib.hid ((HR2P.out.lt (fun b q => q.2.1)).at_ (Nat.le_refl _) b34)
    have b4W : Below w4.heap.size w4 (w4.alloc (.cells #[.int .u8 k, .int .i64 n, .string s, .slice A3 c.length cap3] 24)) := (Below.refl _ w4).alloc (Nat.le_refl _) _
    have HR3 := Lib.hid ((HR3P.out.lt (fun b q => q.2)).at_ (Nat.le_refl _) b4W)
    have hszW : (w4.alloc (.cells #[.int .u8 k, .int .i64 n, .string s, .slice A3 c.length cap3] 24)).heap.size = w4.heap.size + 1 := by simp
    have hbW : Below w.heap.size w (w4.alloc (.cells #[.int .u8 k, .int .i64 n, .string s, .slice A3 c.length cap3] 24)) := HBX.out.trans ((HCw2.out.mono (by simp)).trans (b2W.mono (by omega)))
    have HBWW := Lib.hid hbW
    have HB34 := Lib.hid b34
    have HB4W := Lib.hid b4W
    have HBX2 := Lib.hid bx2
    clear b34 b2W b4W hbW
    revert bx1 bx2 bx3 HR1 HR2 HR3 hszW HBWW HB34 HB4W HBX2
    generalize w4.alloc (.cells #[.int .u8 k, .int .i64 n, .string s, .slice A3 c.length cap3] 24) = W
    intro bx1 bx2 bx3 HR1 HR2 HR3 hszW HBWW HB34 HB4W HBX2
    have hlt1 : w.heap.size < W.heap.size := by omega
    have hlt2 : w3.heap.size < W.heap.size := by omega
    have hlt3 : w4.heap.size < W.heap.size := by omega
    have hstr : ∀ V, Below W.heap.size W V → Str V (fun b => b = w3.heap.size ∨ (w2.heap.size ≤ b ∧ b < w3.heap.size ∧ Cells w3 b)) 1048576 (Tr.mk k n s c) w3.heap.size 0 := fun V hV => by
      have by2 := (hV.block w3.heap.size hlt2).trans HBX2.out
      obtain ⟨y0, y1, y2, y3⟩ := four_at by2
      refine str_of (fun b q => ?_) (Tr.mk k n s c) HN.out (RepP.keep (fun b q => .inr q) (fun b o q => ?_) _ HR2P.out) (.inl rfl) y1 y2 y3
      · rcases q with rfl | ⟨q1, q2, q3⟩
        · exact ⟨_, _, by2⟩
        · exact q3.of ((hV.block b (by omega)).trans (HB34.out.block b q2))
      · exact (hV.cell (p := ⟨b, o, none⟩) (show b < W.heap.size by have := q.2.1; omega)).trans (HB34.out.cell (p := ⟨b, o, none⟩) q.2.1)
    have HSTR := Lib.hid hstr
    have hfin : ∀ V V2, Below W.heap.size W V → Scr (fun b => b = w3.heap.size ∨ (w2.heap.size ≤ b ∧ b < w3.heap.size ∧ Cells w3 b)) (Tr.size (Tr.mk k n s c)) V V2 →
        V2.heap[w.heap.size]? = some (.cells #[.int .u8 k, .int .i64 n, .string s, .slice A1 c.length cap1] 24 (0, 0)) ∧ V2.heap[w4.heap.size]? = some (.cells #[.int .u8 k, .int .i64 n, .string s, .slice A3 c.length cap3] 24 (0, 0)) ∧ Rep V2 V2.heap.size (Tr.mk k n s c) (.agg #[.int .u8 k, .int .i64 n, .string s, .slice A1 c.length cap1]) ∧ Rep V2 V2.heap.size (Tr.mk k n s c) (.agg #[.int .u8 k, .int .i64 n, .string s, .slice A3 c.length cap3]) ∧ Below w.heap.size w V2 := fun V V2 hV hs => by
      have hbV := HBWW.out.trans (hV.mono (by omega))
      have hb2 : Below w.heap.size w V2 := hbV.trans (hs.below (fun b q => by omega))
      have hz := hV.size
      have hz2 := hs.size
      refine ⟨(hs.other _ (fun q => by omega)).trans ((hV.block _ hlt1).trans bx1), (hs.other _ (fun q => by omega)).trans ((hV.block _ hlt3).trans bx3), HR.out.at_ (Nat.le_refl _) hb2, RepP.lt (ok := fun b => w3.heap.size + 1 ≤ b ∧ b < w4.heap.size) ?_ (fun b q => by omega), hb2⟩
      have h3 := HR3P.out
      simp only [World.size_alloc] at h3
      refine RepP.keep (fun b q => q) (fun b o q => ?_) _ h3
      exact (World.cell?_of_block (hs.other b (fun q' => by omega))).trans ((hV.cell (p := ⟨b, o, none⟩) (show b < W.heap.size by omega)).trans (HB4W.out.cell (p := ⟨b, o, none⟩) q.2))
    have HFIN := Lib.hid hfin
    clear hstr hfin
    refine wpIn_wide (n := 0) |>.1 (region_all (N := 32) (s := fun i => 15 + i) hmo rfl (by kernel_rfl) (fun V => Below W.heap.size W V) (Specs ([.is (.agg #[.int .u8 k, .int .i64 n, .string s, .slice A3 c.length cap3]), .is (.agg #[.int .u8 k, .int .i64 n, .string s, .slice A2 c.length cap2]), .is (.bool true), .is (.bool false), .is (.bool false), .is (.agg #[.int .u8 k, .int .i64 n, .string s, .slice A3 c.length cap3]), .is (.int .i64 (Tr.size (Tr.mk k n s c) : Nat)), .is (.agg #[.int .u8 k, .int .i64 n, .string s, .slice A1 c.length cap1]), .is (.int .i64 (Tr.size (Tr.mk k n s c) : Nat)), .is (.bool false), .is (.bool false), .is (.bool false), .is (.agg #[.int .u8 k, .int .i64 n, .string s, .slice A3 c.length cap3]), .is (.int .i64 (Tr.depth (Tr.mk k n s c) : Nat)), .is (.agg #[.int .u8 k, .int .i64 n, .string s, .slice A1 c.length cap1]), .is (.int .i64 (Tr.depth (Tr.mk k n s c) : Nat)), .is (.bool false), .is (.bool false), .is (.bool false), .is (.agg #[.int .u8 k, .int .i64 n, .string s, .slice A1 c.length cap1]), .is (.int .i64 (Tr.size (Tr.mk k n s c) : Nat)), .is (.agg #[.int .u8 k, .int .i64 n, .string s, .slice A3 c.length cap3]), .is (.int .i64 (Tr.size (Tr.mk k n s c) : Nat)), .is (.bool false), .is (.bool false), .is (.bool false), .is (.agg #[.int .u8 k, .int .i64 n, .string s, .slice A1 c.length cap1]), .is (.int .i64 (Tr.depth (Tr.mk k n s c) : Nat)), .is (.agg #[.int .u8 k, .int .i64 n, .string s, .slice A3 c.length cap3]), .is (.int .i64 (Tr.depth (Tr.mk k n s c) : Nat)), .is (.bool false), .is (.bool false)])) (by intro j hj; simp; omega) (by intro i j _ _ e; simp at e; omega) (Below.refl _ W).drew ?steps ?fin)
    case steps =>
      show AllFrom _ 0 (_ :: _)
      refine AllFrom.cons (fun listed a2 V h hi hd => ?_) ?_
      · have f6 : a2.tmps[6]? = some (.pointer (some ⟨w4.heap.size, 0, none⟩)) := h.fixed 6 (by intro j hj; skip; simp; omega)
        have B0 := (h.cw.block (w4.heap.size) hlt3).trans bx3
        have kc0 : V.cell? ⟨w4.heap.size, 0, none⟩ = some (.int .u8 k) := cell_of_row _ _ 0 _ _ _ B0
        have kc1 : V.cell? ⟨w4.heap.size, 1, none⟩ = some (.int .i64 n) := cell_of_row _ _ 1 _ _ _ B0
        have kc2 : V.cell? ⟨w4.heap.size, 2, none⟩ = some (.string s) := cell_of_row _ _ 2 _ _ _ B0
        have kc3 : V.cell? ⟨w4.heap.size, 3, none⟩ = some (.slice A3 c.length cap3) := cell_of_row _ _ 3 _ _ _ B0
        exact RInv.pure (v := .agg #[.int .u8 k, .int .i64 n, .string s, .slice A3 c.length cap3]) h hi rfl (wanted_none rfl) (fun _ => trivial) (by intro c; simp) (by simp [execOp, f6, kc0, kc1, kc2, kc3, go_sem]) rfl
      refine AllFrom.cons (fun listed a2 V h hi hd => ?_) ?_
      · have f5 : a2.tmps[5]? = some (.pointer (some ⟨w3.heap.size, 0, none⟩)) := h.fixed 5 (by intro j hj; skip; simp; omega)
        have B0 := (h.cw.block (w3.heap.size) hlt2).trans bx2
        have kc0 : V.cell? ⟨w3.heap.size, 0, none⟩ = some (.int .u8 k) := cell_of_row _ _ 0 _ _ _ B0
        have kc1 : V.cell? ⟨w3.heap.size, 1, none⟩ = some (.int .i64 n) := cell_of_row _ _ 1 _ _ _ B0
        have kc2 : V.cell? ⟨w3.heap.size, 2, none⟩ = some (.string s) := cell_of_row _ _ 2 _ _ _ B0
        have kc3 : V.cell? ⟨w3.heap.size, 3, none⟩ = some (.slice A2 c.length cap2) := cell_of_row _ _ 3 _ _ _ B0
        exact RInv.pure (v := .agg #[.int .u8 k, .int .i64 n, .string s, .slice A2 c.length cap2]) h hi rfl (wanted_none rfl) (fun _ => trivial) (by intro c; simp) (by simp [execOp, f5, kc0, kc1, kc2, kc3, go_sem]) rfl
      refine AllFrom.cons (fun listed a2 V h hi hd => ?_) ?_
      · obtain ⟨u0, h0, e0⟩ := hd ⟨0, .data⟩ (by simp) rfl
        replace e0 : u0 = .agg #[.int .u8 k, .int .i64 n, .string s, .slice A3 c.length cap3] := e0
        subst e0
        replace h0 : a2.tmps[15]? = some _ := h0
        obtain ⟨u1, h1, e1⟩ := hd ⟨1, .data⟩ (by simp) rfl
        replace e1 : u1 = .agg #[.int .u8 k, .int .i64 n, .string s, .slice A2 c.length cap2] := e1
        subst e1
        replace h1 : a2.tmps[16]? = some _ := h1
        refine RInv.enter (f := 28) (args := #[.agg #[.int .u8 k, .int .i64 n, .string s, .slice A3 c.length cap3], .agg #[.int .u8 k, .int .i64 n, .string s, .slice A2 c.length cap2]]) h hi rfl (wanted_none rfl) (fun _ => trivial) (by intro c; simp) rfl (by simp [h0, h1, go_sem]) ?_
        refine (callsIn_wide.2 (equal_any (Tr.mk k n s c) (Tr.mk k n s c) _ _ _ (HR3.out.at_ (Nat.le_refl _) h.cw) (HR2.out.at_ (Nat.le_refl _) h.cw))).mono ?_
        rw [eqB_refl]
        rintro e V2 ⟨rfl, hq1⟩
        exact ⟨_, rfl, h.cw.trans (hq1.mono h.cw.size), Specs.mono hq1, rfl⟩
      refine AllFrom.cons (fun listed a2 V h hi hd => ?_) ?_
      · obtain ⟨u2, h2, e2⟩ := hd ⟨2, .data⟩ (by simp) rfl
        replace e2 : u2 = .bool true := e2
        subst e2
        replace h2 : a2.tmps[17]? = some _ := h2
        exact RInv.pure (v := .bool false) h hi rfl (wanted_none rfl) (fun _ => trivial) (by intro c; simp) (by simp [execOp, h2, go_sem]) rfl
      refine AllFrom.cons (fun listed a2 V h hi hd => ?_) ?_
      · obtain ⟨u3, h3, e3⟩ := hd ⟨3, .data⟩ (by simp) rfl
        replace e3 : u3 = .bool false := e3
        subst e3
        replace h3 : a2.tmps[18]? = some _ := h3
        exact RInv.pure (v := .bool false) h hi rfl (wanted_none rfl) (fun _ => trivial) (by intro c; simp) (by simp [execOp, h3, go_sem]) rfl
      refine AllFrom.cons (fun listed a2 V h hi hd => ?_) ?_
      · obtain ⟨u4, h4, e4⟩ := hd ⟨4, .guard⟩ (by simp) rfl
        replace e4 : u4 = .bool false := e4
        subst e4
        replace h4 : a2.tmps[19]? = some _ := h4
        have f6 : a2.tmps[6]? = some (.pointer (some ⟨w4.heap.size, 0, none⟩)) := h.fixed 6 (by intro j hj; skip; simp; omega)
        have B0 := (h.cw.block (w4.heap.size) hlt3).trans bx3
        have kc0 : V.cell? ⟨w4.heap.size, 0, none⟩ = some (.int .u8 k) := cell_of_row _ _ 0 _ _ _ B0
        have kc1 : V.cell? ⟨w4.heap.size, 1, none⟩ = some (.int .i64 n) := cell_of_row _ _ 1 _ _ _ B0
        have kc2 : V.cell? ⟨w4.heap.size, 2, none⟩ = some (.string s) := cell_of_row _ _ 2 _ _ _ B0
        have kc3 : V.cell? ⟨w4.heap.size, 3, none⟩ = some (.slice A3 c.length cap3) := cell_of_row _ _ 3 _ _ _ B0
        exact RInv.pure (v := .agg #[.int .u8 k, .int .i64 n, .string s, .slice A3 c.length cap3]) h hi rfl (wanted_at rfl rfl h4 rfl) (fun _ => trivial) (by intro c; simp) (by simp [execOp, f6, kc0, kc1, kc2, kc3, go_sem]) rfl
      refine AllFrom.cons (fun listed a2 V h hi hd => ?_) ?_
      · obtain ⟨u5, h5, e5⟩ := hd ⟨5, .data⟩ (by simp) rfl
        replace e5 : u5 = .agg #[.int .u8 k, .int .i64 n, .string s, .slice A3 c.length cap3] := e5
        subst e5
        replace h5 : a2.tmps[20]? = some _ := h5
        obtain ⟨u4, h4, e4⟩ := hd ⟨4, .chain⟩ (by simp) rfl
        replace e4 : u4 = .bool false := e4
        subst e4
        replace h4 : a2.tmps[19]? = some _ := h4
        refine RInv.enter (f := 31) (args := #[.agg #[.int .u8 k, .int .i64 n, .string s, .slice A3 c.length cap3]]) h hi rfl (wanted_at rfl rfl h4 rfl) (fun _ => trivial) (by intro c; simp) rfl (by simp [h5, go_sem]) ?_
        refine (callsIn_wide.2 (size_any (Tr.mk k n s c) _ _ (HR3.out.at_ (Nat.le_refl _) h.cw) (by omega))).mono ?_
        rintro e V2 ⟨rfl, hq1⟩
        exact ⟨_, rfl, h.cw.trans (hq1.mono h.cw.size), Specs.mono hq1, rfl⟩
      refine AllFrom.cons (fun listed a2 V h hi hd => ?_) ?_
      · obtain ⟨u4, h4, e4⟩ := hd ⟨4, .guard⟩ (by simp) rfl
        replace e4 : u4 = .bool false := e4
        subst e4
        replace h4 : a2.tmps[19]? = some _ := h4
        have f2 : a2.tmps[2]? = some (.pointer (some ⟨w.heap.size, 0, none⟩)) := h.fixed 2 (by intro j hj; skip; simp; omega)
        have B0 := (h.cw.block (w.heap.size) hlt1).trans bx1
        have kc0 : V.cell? ⟨w.heap.size, 0, none⟩ = some (.int .u8 k) := cell_of_row _ _ 0 _ _ _ B0
        have kc1 : V.cell? ⟨w.heap.size, 1, none⟩ = some (.int .i64 n) := cell_of_row _ _ 1 _ _ _ B0
        have kc2 : V.cell? ⟨w.heap.size, 2, none⟩ = some (.string s) := cell_of_row _ _ 2 _ _ _ B0
        have kc3 : V.cell? ⟨w.heap.size, 3, none⟩ = some (.slice A1 c.length cap1) := cell_of_row _ _ 3 _ _ _ B0
        exact RInv.pure (v := .agg #[.int .u8 k, .int .i64 n, .string s, .slice A1 c.length cap1]) h hi rfl (wanted_at rfl rfl h4 rfl) (fun _ => trivial) (by intro c; simp) (by simp [execOp, f2, kc0, kc1, kc2, kc3, go_sem]) rfl
      refine AllFrom.cons (fun listed a2 V h hi hd => ?_) ?_
      · obtain ⟨u7, h7, e7⟩ := hd ⟨7, .data⟩ (by simp) rfl
        replace e7 : u7 = .agg #[.int .u8 k, .int .i64 n, .string s, .slice A1 c.length cap1] := e7
        subst e7
        replace h7 : a2.tmps[22]? = some _ := h7
        obtain ⟨u4, h4, e4⟩ := hd ⟨4, .guard⟩ (by simp) rfl
        replace e4 : u4 = .bool false := e4
        subst e4
        replace h4 : a2.tmps[19]? = some _ := h4
        refine RInv.enter (f := 32) (args := #[.agg #[.int .u8 k, .int .i64 n, .string s, .slice A1 c.length cap1]]) h hi rfl (wanted_at rfl rfl h4 rfl) (fun _ => trivial) (by intro c; simp) rfl (by simp [h7, go_sem]) ?_
        refine (callsIn_wide.2 (rsize_any (Tr.mk k n s c) _ _ (HR1.out.at_ (Nat.le_refl _) h.cw) (by omega))).mono ?_
        rintro e V2 ⟨rfl, hq1⟩
        exact ⟨_, rfl, h.cw.trans (hq1.mono h.cw.size), Specs.mono hq1, rfl⟩
      refine AllFrom.cons (fun listed a2 V h hi hd => ?_) ?_
      · obtain ⟨u6, h6, e6⟩ := hd ⟨6, .data⟩ (by simp) rfl
        replace e6 : u6 = .int .i64 (Tr.size (Tr.mk k n s c) : Nat) := e6
        subst e6
        replace h6 : a2.tmps[21]? = some _ := h6
        obtain ⟨u8, h8, e8⟩ := hd ⟨8, .data⟩ (by simp) rfl
        replace e8 : u8 = .int .i64 (Tr.size (Tr.mk k n s c) : Nat) := e8
        subst e8
        replace h8 : a2.tmps[23]? = some _ := h8
        obtain ⟨u4, h4, e4⟩ := hd ⟨4, .guard⟩ (by simp) rfl
        replace e4 : u4 = .bool false := e4
        subst e4
        replace h4 : a2.tmps[19]? = some _ := h4
        exact RInv.pure (v := .bool false) h hi rfl (wanted_at rfl rfl h4 rfl) (fun _ => trivial) (by intro c; simp) (by simp [execOp, h6, h8, go_sem]) rfl
      refine AllFrom.cons (fun listed a2 V h hi hd => ?_) ?_
      · obtain ⟨u4, h4, e4⟩ := hd ⟨4, .data⟩ (by simp) rfl
        replace e4 : u4 = .bool false := e4
        subst e4
        replace h4 : a2.tmps[19]? = some _ := h4
        obtain ⟨u9, h9, e9⟩ := hd ⟨9, .data⟩ (by simp) rfl
        replace e9 : u9 = .bool false := e9
        subst e9
        replace h9 : a2.tmps[24]? = some _ := h9
        exact RInv.pure (v := .bool false) h hi rfl (wanted_none rfl) (fun _ => trivial) (by intro c; simp) (by simp [execOp, h4, h9, go_sem]) rfl
      refine AllFrom.cons (fun listed a2 V h hi hd => ?_) ?_
      · obtain ⟨u10, h10, e10⟩ := hd ⟨10, .data⟩ (by simp) rfl
        replace e10 : u10 = .bool false := e10
        subst e10
        replace h10 : a2.tmps[25]? = some _ := h10
        exact RInv.pure (v := .bool false) h hi rfl (wanted_none rfl) (fun _ => trivial) (by intro c; simp) (by simp [execOp, h10, go_sem]) rfl
      refine AllFrom.cons (fun listed a2 V h hi hd => ?_) ?_
      · obtain ⟨u11, h11, e11⟩ := hd ⟨11, .guard⟩ (by simp) rfl
        replace e11 : u11 = .bool false := e11
        subst e11
        replace h11 : a2.tmps[26]? = some _ := h11
        have f6 : a2.tmps[6]? = some (.pointer (some ⟨w4.heap.size, 0, none⟩)) := h.fixed 6 (by intro j hj; skip; simp; omega)
        have B0 := (h.cw.block (w4.heap.size) hlt3).trans bx3
        have kc0 : V.cell? ⟨w4.heap.size, 0, none⟩ = some (.int .u8 k) := cell_of_row _ _ 0 _ _ _ B0
        have kc1 : V.cell? ⟨w4.heap.size, 1, none⟩ = some (.int .i64 n) := cell_of_row _ _ 1 _ _ _ B0
        have kc2 : V.cell? ⟨w4.heap.size, 2, none⟩ = some (.string s) := cell_of_row _ _ 2 _ _ _ B0
        have kc3 : V.cell? ⟨w4.heap.size, 3, none⟩ = some (.slice A3 c.length cap3) := cell_of_row _ _ 3 _ _ _ B0
        exact RInv.pure (v := .agg #[.int .u8 k, .int .i64 n, .string s, .slice A3 c.length cap3]) h hi rfl (wanted_at rfl rfl h11 rfl) (fun _ => trivial) (by intro c; simp) (by simp [execOp, f6, kc0, kc1, kc2, kc3, go_sem]) rfl
      refine AllFrom.cons (fun listed a2 V h hi hd => ?_) ?_
      · obtain ⟨u12, h12, e12⟩ := hd ⟨12, .data⟩ (by simp) rfl
        replace e12 : u12 = .agg #[.int .u8 k, .int .i64 n, .string s, .slice A3 c.length cap3] := e12
        subst e12
        replace h12 : a2.tmps[27]? = some _ := h12
        obtain ⟨u11, h11, e11⟩ := hd ⟨11, .chain⟩ (by simp) rfl
        replace e11 : u11 = .bool false := e11
        subst e11
        replace h11 : a2.tmps[26]? = some _ := h11
        refine RInv.enter (f := 33) (args := #[.agg #[.int .u8 k, .int .i64 n, .string s, .slice A3 c.length cap3]]) h hi rfl (wanted_at rfl rfl h11 rfl) (fun _ => trivial) (by intro c; simp) rfl (by simp [h12, go_sem]) ?_
        refine (callsIn_wide.2 (depth_any (Tr.mk k n s c) _ _ (HR3.out.at_ (Nat.le_refl _) h.cw) (by omega))).mono ?_
        rintro e V2 ⟨rfl, hq1⟩
        exact ⟨_, rfl, h.cw.trans (hq1.mono h.cw.size), Specs.mono hq1, rfl⟩
      refine AllFrom.cons (fun listed a2 V h hi hd => ?_) ?_
      · obtain ⟨u11, h11, e11⟩ := hd ⟨11, .guard⟩ (by simp) rfl
        replace e11 : u11 = .bool false := e11
        subst e11
        replace h11 : a2.tmps[26]? = some _ := h11
        have f2 : a2.tmps[2]? = some (.pointer (some ⟨w.heap.size, 0, none⟩)) := h.fixed 2 (by intro j hj; skip; simp; omega)
        have B0 := (h.cw.block (w.heap.size) hlt1).trans bx1
        have kc0 : V.cell? ⟨w.heap.size, 0, none⟩ = some (.int .u8 k) := cell_of_row _ _ 0 _ _ _ B0
        have kc1 : V.cell? ⟨w.heap.size, 1, none⟩ = some (.int .i64 n) := cell_of_row _ _ 1 _ _ _ B0
        have kc2 : V.cell? ⟨w.heap.size, 2, none⟩ = some (.string s) := cell_of_row _ _ 2 _ _ _ B0
        have kc3 : V.cell? ⟨w.heap.size, 3, none⟩ = some (.slice A1 c.length cap1) := cell_of_row _ _ 3 _ _ _ B0
        exact RInv.pure (v := .agg #[.int .u8 k, .int .i64 n, .string s, .slice A1 c.length cap1]) h hi rfl (wanted_at rfl rfl h11 rfl) (fun _ => trivial) (by intro c; simp) (by simp [execOp, f2, kc0, kc1, kc2, kc3, go_sem]) rfl
      refine AllFrom.cons (fun listed a2 V h hi hd => ?_) ?_
      · obtain ⟨u14, h14, e14⟩ := hd ⟨14, .data⟩ (by simp) rfl
        replace e14 : u14 = .agg #[.int .u8 k, .int .i64 n, .string s, .slice A1 c.length cap1] := e14
        subst e14
        replace h14 : a2.tmps[29]? = some _ := h14
        obtain ⟨u11, h11, e11⟩ := hd ⟨11, .guard⟩ (by simp) rfl
        replace e11 : u11 = .bool false := e11
        subst e11
        replace h11 : a2.tmps[26]? = some _ := h11
        refine RInv.enter (f := 34) (args := #[.agg #[.int .u8 k, .int .i64 n, .string s, .slice A1 c.length cap1]]) h hi rfl (wanted_at rfl rfl h11 rfl) (fun _ => trivial) (by intro c; simp) rfl (by simp [h14, go_sem]) ?_
        refine (callsIn_wide.2 (rdepth_any (Tr.mk k n s c) _ _ (HR1.out.at_ (Nat.le_refl _) h.cw) (by omega))).mono ?_
        rintro e V2 ⟨rfl, hq1⟩
        exact ⟨_, rfl, h.cw.trans (hq1.mono h.cw.size), Specs.mono hq1, rfl⟩
      refine AllFrom.cons (fun listed a2 V h hi hd => ?_) ?_
      · obtain ⟨u13, h13, e13⟩ := hd ⟨13, .data⟩ (by simp) rfl
        replace e13 : u13 = .int .i64 (Tr.depth (Tr.mk k n s c) : Nat) := e13
        subst e13
        replace h13 : a2.tmps[28]? = some _ := h13
        obtain ⟨u15, h15, e15⟩ := hd ⟨15, .data⟩ (by simp) rfl
        replace e15 : u15 = .int .i64 (Tr.depth (Tr.mk k n s c) : Nat) := e15
        subst e15
        replace h15 : a2.tmps[30]? = some _ := h15
        obtain ⟨u11, h11, e11⟩ := hd ⟨11, .guard⟩ (by simp) rfl
        replace e11 : u11 = .bool false := e11
        subst e11
        replace h11 : a2.tmps[26]? = some _ := h11
        exact RInv.pure (v := .bool false) h hi rfl (wanted_at rfl rfl h11 rfl) (fun _ => trivial) (by intro c; simp) (by simp [execOp, h13, h15, go_sem]) rfl
      refine AllFrom.cons (fun listed a2 V h hi hd => ?_) ?_
      · obtain ⟨u11, h11, e11⟩ := hd ⟨11, .data⟩ (by simp) rfl
        replace e11 : u11 = .bool false := e11
        subst e11
        replace h11 : a2.tmps[26]? = some _ := h11
        obtain ⟨u16, h16, e16⟩ := hd ⟨16, .data⟩ (by simp) rfl
        replace e16 : u16 = .bool false := e16
        subst e16
        replace h16 : a2.tmps[31]? = some _ := h16
        exact RInv.pure (v := .bool false) h hi rfl (wanted_none rfl) (fun _ => trivial) (by intro c; simp) (by simp [execOp, h11, h16, go_sem]) rfl
      refine AllFrom.cons (fun listed a2 V h hi hd => ?_) ?_
      · obtain ⟨u17, h17, e17⟩ := hd ⟨17, .data⟩ (by simp) rfl
        replace e17 : u17 = .bool false := e17
        subst e17
        replace h17 : a2.tmps[32]? = some _ := h17
        exact RInv.pure (v := .bool false) h hi rfl (wanted_none rfl) (fun _ => trivial) (by intro c; simp) (by simp [execOp, h17, go_sem]) rfl
      refine AllFrom.cons (fun listed a2 V h hi hd => ?_) ?_
      · obtain ⟨u18, h18, e18⟩ := hd ⟨18, .guard⟩ (by simp) rfl
        replace e18 : u18 = .bool false := e18
        subst e18
        replace h18 : a2.tmps[33]? = some _ := h18
        have f2 : a2.tmps[2]? = some (.pointer (some ⟨w.heap.size, 0, none⟩)) := h.fixed 2 (by intro j hj; skip; simp; omega)
        have B0 := (h.cw.block (w.heap.size) hlt1).trans bx1
        have kc0 : V.cell? ⟨w.heap.size, 0, none⟩ = some (.int .u8 k) := cell_of_row _ _ 0 _ _ _ B0
        have kc1 : V.cell? ⟨w.heap.size, 1, none⟩ = some (.int .i64 n) := cell_of_row _ _ 1 _ _ _ B0
        have kc2 : V.cell? ⟨w.heap.size, 2, none⟩ = some (.string s) := cell_of_row _ _ 2 _ _ _ B0
        have kc3 : V.cell? ⟨w.heap.size, 3, none⟩ = some (.slice A1 c.length cap1) := cell_of_row _ _ 3 _ _ _ B0
        exact RInv.pure (v := .agg #[.int .u8 k, .int .i64 n, .string s, .slice A1 c.length cap1]) h hi rfl (wanted_at rfl rfl h18 rfl) (fun _ => trivial) (by intro c; simp) (by simp [execOp, f2, kc0, kc1, kc2, kc3, go_sem]) rfl
      refine AllFrom.cons (fun listed a2 V h hi hd => ?_) ?_
      · obtain ⟨u19, h19, e19⟩ := hd ⟨19, .data⟩ (by simp) rfl
        replace e19 : u19 = .agg #[.int .u8 k, .int .i64 n, .string s, .slice A1 c.length cap1] := e19
        subst e19
        replace h19 : a2.tmps[34]? = some _ := h19
        obtain ⟨u18, h18, e18⟩ := hd ⟨18, .chain⟩ (by simp) rfl
        replace e18 : u18 = .bool false := e18
        subst e18
        replace h18 : a2.tmps[33]? = some _ := h18
        refine RInv.enter (f := 31) (args := #[.agg #[.int .u8 k, .int .i64 n, .string s, .slice A1 c.length cap1]]) h hi rfl (wanted_at rfl rfl h18 rfl) (fun _ => trivial) (by intro c; simp) rfl (by simp [h19, go_sem]) ?_
        refine (callsIn_wide.2 (size_any (Tr.mk k n s c) _ _ (HR1.out.at_ (Nat.le_refl _) h.cw) (by omega))).mono ?_
        rintro e V2 ⟨rfl, hq1⟩
        exact ⟨_, rfl, h.cw.trans (hq1.mono h.cw.size), Specs.mono hq1, rfl⟩
      refine AllFrom.cons (fun listed a2 V h hi hd => ?_) ?_
      · obtain ⟨u18, h18, e18⟩ := hd ⟨18, .guard⟩ (by simp) rfl
        replace e18 : u18 = .bool false := e18
        subst e18
        replace h18 : a2.tmps[33]? = some _ := h18
        have f6 : a2.tmps[6]? = some (.pointer (some ⟨w4.heap.size, 0, none⟩)) := h.fixed 6 (by intro j hj; skip; simp; omega)
        have B0 := (h.cw.block (w4.heap.size) hlt3).trans bx3
        have kc0 : V.cell? ⟨w4.heap.size, 0, none⟩ = some (.int .u8 k) := cell_of_row _ _ 0 _ _ _ B0
        have kc1 : V.cell? ⟨w4.heap.size, 1, none⟩ = some (.int .i64 n) := cell_of_row _ _ 1 _ _ _ B0
        have kc2 : V.cell? ⟨w4.heap.size, 2, none⟩ = some (.string s) := cell_of_row _ _ 2 _ _ _ B0
        have kc3 : V.cell? ⟨w4.heap.size, 3, none⟩ = some (.slice A3 c.length cap3) := cell_of_row _ _ 3 _ _ _ B0
        exact RInv.pure (v := .agg #[.int .u8 k, .int .i64 n, .string s, .slice A3 c.length cap3]) h hi rfl (wanted_at rfl rfl h18 rfl) (fun _ => trivial) (by intro c; simp) (by simp [execOp, f6, kc0, kc1, kc2, kc3, go_sem]) rfl
      refine AllFrom.cons (fun listed a2 V h hi hd => ?_) ?_
      · obtain ⟨u21, h21, e21⟩ := hd ⟨21, .data⟩ (by simp) rfl
        replace e21 : u21 = .agg #[.int .u8 k, .int .i64 n, .string s, .slice A3 c.length cap3] := e21
        subst e21
        replace h21 : a2.tmps[36]? = some _ := h21
        obtain ⟨u18, h18, e18⟩ := hd ⟨18, .guard⟩ (by simp) rfl
        replace e18 : u18 = .bool false := e18
        subst e18
        replace h18 : a2.tmps[33]? = some _ := h18
        refine RInv.enter (f := 31) (args := #[.agg #[.int .u8 k, .int .i64 n, .string s, .slice A3 c.length cap3]]) h hi rfl (wanted_at rfl rfl h18 rfl) (fun _ => trivial) (by intro c; simp) rfl (by simp [h21, go_sem]) ?_
        refine (callsIn_wide.2 (size_any (Tr.mk k n s c) _ _ (HR3.out.at_ (Nat.le_refl _) h.cw) (by omega))).mono ?_
        rintro e V2 ⟨rfl, hq1⟩
        exact ⟨_, rfl, h.cw.trans (hq1.mono h.cw.size), Specs.mono hq1, rfl⟩
      refine AllFrom.cons (fun listed a2 V h hi hd => ?_) ?_
      · obtain ⟨u20, h20, e20⟩ := hd ⟨20, .data⟩ (by simp) rfl
        replace e20 : u20 = .int .i64 (Tr.size (Tr.mk k n s c) : Nat) := e20
        subst e20
        replace h20 : a2.tmps[35]? = some _ := h20
        obtain ⟨u22, h22, e22⟩ := hd ⟨22, .data⟩ (by simp) rfl
        replace e22 : u22 = .int .i64 (Tr.size (Tr.mk k n s c) : Nat) := e22
        subst e22
        replace h22 : a2.tmps[37]? = some _ := h22
        obtain ⟨u18, h18, e18⟩ := hd ⟨18, .guard⟩ (by simp) rfl
        replace e18 : u18 = .bool false := e18
        subst e18
        replace h18 : a2.tmps[33]? = some _ := h18
        exact RInv.pure (v := .bool false) h hi rfl (wanted_at rfl rfl h18 rfl) (fun _ => trivial) (by intro c; simp) (by simp [execOp, h20, h22, go_sem]) rfl
      refine AllFrom.cons (fun listed a2 V h hi hd => ?_) ?_
      · obtain ⟨u18, h18, e18⟩ := hd ⟨18, .data⟩ (by simp) rfl
        replace e18 : u18 = .bool false := e18
        subst e18
        replace h18 : a2.tmps[33]? = some _ := h18
        obtain ⟨u23, h23, e23⟩ := hd ⟨23, .data⟩ (by simp) rfl
        replace e23 : u23 = .bool false := e23
        subst e23
        replace h23 : a2.tmps[38]? = some _ := h23
        exact RInv.pure (v := .bool false) h hi rfl (wanted_none rfl) (fun _ => trivial) (by intro c; simp) (by simp [execOp, h18, h23, go_sem]) rfl
      refine AllFrom.cons (fun listed a2 V h hi hd => ?_) ?_
      · obtain ⟨u24, h24, e24⟩ := hd ⟨24, .data⟩ (by simp) rfl
        replace e24 : u24 = .bool false := e24
        subst e24
        replace h24 : a2.tmps[39]? = some _ := h24
        exact RInv.pure (v := .bool false) h hi rfl (wanted_none rfl) (fun _ => trivial) (by intro c; simp) (by simp [execOp, h24, go_sem]) rfl
      refine AllFrom.cons (fun listed a2 V h hi hd => ?_) ?_
      · obtain ⟨u25, h25, e25⟩ := hd ⟨25, .guard⟩ (by simp) rfl
        replace e25 : u25 = .bool false := e25
        subst e25
        replace h25 : a2.tmps[40]? = some _ := h25
        have f2 : a2.tmps[2]? = some (.pointer (some ⟨w.heap.size, 0, none⟩)) := h.fixed 2 (by intro j hj; skip; simp; omega)
        have B0 := (h.cw.block (w.heap.size) hlt1).trans bx1
        have kc0 : V.cell? ⟨w.heap.size, 0, none⟩ = some (.int .u8 k) := cell_of_row _ _ 0 _ _ _ B0
        have kc1 : V.cell? ⟨w.heap.size, 1, none⟩ = some (.int .i64 n) := cell_of_row _ _ 1 _ _ _ B0
        have kc2 : V.cell? ⟨w.heap.size, 2, none⟩ = some (.string s) := cell_of_row _ _ 2 _ _ _ B0
        have kc3 : V.cell? ⟨w.heap.size, 3, none⟩ = some (.slice A1 c.length cap1) := cell_of_row _ _ 3 _ _ _ B0
        exact RInv.pure (v := .agg #[.int .u8 k, .int .i64 n, .string s, .slice A1 c.length cap1]) h hi rfl (wanted_at rfl rfl h25 rfl) (fun _ => trivial) (by intro c; simp) (by simp [execOp, f2, kc0, kc1, kc2, kc3, go_sem]) rfl
      refine AllFrom.cons (fun listed a2 V h hi hd => ?_) ?_
      · obtain ⟨u26, h26, e26⟩ := hd ⟨26, .data⟩ (by simp) rfl
        replace e26 : u26 = .agg #[.int .u8 k, .int .i64 n, .string s, .slice A1 c.length cap1] := e26
        subst e26
        replace h26 : a2.tmps[41]? = some _ := h26
        obtain ⟨u25, h25, e25⟩ := hd ⟨25, .chain⟩ (by simp) rfl
        replace e25 : u25 = .bool false := e25
        subst e25
        replace h25 : a2.tmps[40]? = some _ := h25
        refine RInv.enter (f := 33) (args := #[.agg #[.int .u8 k, .int .i64 n, .string s, .slice A1 c.length cap1]]) h hi rfl (wanted_at rfl rfl h25 rfl) (fun _ => trivial) (by intro c; simp) rfl (by simp [h26, go_sem]) ?_
        refine (callsIn_wide.2 (depth_any (Tr.mk k n s c) _ _ (HR1.out.at_ (Nat.le_refl _) h.cw) (by omega))).mono ?_
        rintro e V2 ⟨rfl, hq1⟩
        exact ⟨_, rfl, h.cw.trans (hq1.mono h.cw.size), Specs.mono hq1, rfl⟩
      refine AllFrom.cons (fun listed a2 V h hi hd => ?_) ?_
      · obtain ⟨u25, h25, e25⟩ := hd ⟨25, .guard⟩ (by simp) rfl
        replace e25 : u25 = .bool false := e25
        subst e25
        replace h25 : a2.tmps[40]? = some _ := h25
        have f6 : a2.tmps[6]? = some (.pointer (some ⟨w4.heap.size, 0, none⟩)) := h.fixed 6 (by intro j hj; skip; simp; omega)
        have B0 := (h.cw.block (w4.heap.size) hlt3).trans bx3
        have kc0 : V.cell? ⟨w4.heap.size, 0, none⟩ = some (.int .u8 k) := cell_of_row _ _ 0 _ _ _ B0
        have kc1 : V.cell? ⟨w4.heap.size, 1, none⟩ = some (.int .i64 n) := cell_of_row _ _ 1 _ _ _ B0
        have kc2 : V.cell? ⟨w4.heap.size, 2, none⟩ = some (.string s) := cell_of_row _ _ 2 _ _ _ B0
        have kc3 : V.cell? ⟨w4.heap.size, 3, none⟩ = some (.slice A3 c.length cap3) := cell_of_row _ _ 3 _ _ _ B0
        exact RInv.pure (v := .agg #[.int .u8 k, .int .i64 n, .string s, .slice A3 c.length cap3]) h hi rfl (wanted_at rfl rfl h25 rfl) (fun _ => trivial) (by intro c; simp) (by simp [execOp, f6, kc0, kc1, kc2, kc3, go_sem]) rfl
      refine AllFrom.cons (fun listed a2 V h hi hd => ?_) ?_
      · obtain ⟨u28, h28, e28⟩ := hd ⟨28, .data⟩ (by simp) rfl
        replace e28 : u28 = .agg #[.int .u8 k, .int .i64 n, .string s, .slice A3 c.length cap3] := e28
        subst e28
        replace h28 : a2.tmps[43]? = some _ := h28
        obtain ⟨u25, h25, e25⟩ := hd ⟨25, .guard⟩ (by simp) rfl
        replace e25 : u25 = .bool false := e25
        subst e25
        replace h25 : a2.tmps[40]? = some _ := h25
        refine RInv.enter (f := 33) (args := #[.agg #[.int .u8 k, .int .i64 n, .string s, .slice A3 c.length cap3]]) h hi rfl (wanted_at rfl rfl h25 rfl) (fun _ => trivial) (by intro c; simp) rfl (by simp [h28, go_sem]) ?_
        refine (callsIn_wide.2 (depth_any (Tr.mk k n s c) _ _ (HR3.out.at_ (Nat.le_refl _) h.cw) (by omega))).mono ?_
        rintro e V2 ⟨rfl, hq1⟩
        exact ⟨_, rfl, h.cw.trans (hq1.mono h.cw.size), Specs.mono hq1, rfl⟩
      refine AllFrom.cons (fun listed a2 V h hi hd => ?_) ?_
      · obtain ⟨u27, h27, e27⟩ := hd ⟨27, .data⟩ (by simp) rfl
        replace e27 : u27 = .int .i64 (Tr.depth (Tr.mk k n s c) : Nat) := e27
        subst e27
        replace h27 : a2.tmps[42]? = some _ := h27
        obtain ⟨u29, h29, e29⟩ := hd ⟨29, .data⟩ (by simp) rfl
        replace e29 : u29 = .int .i64 (Tr.depth (Tr.mk k n s c) : Nat) := e29
        subst e29
        replace h29 : a2.tmps[44]? = some _ := h29
        obtain ⟨u25, h25, e25⟩ := hd ⟨25, .guard⟩ (by simp) rfl
        replace e25 : u25 = .bool false := e25
        subst e25
        replace h25 : a2.tmps[40]? = some _ := h25
        exact RInv.pure (v := .bool false) h hi rfl (wanted_at rfl rfl h25 rfl) (fun _ => trivial) (by intro c; simp) (by simp [execOp, h27, h29, go_sem]) rfl
      refine AllFrom.cons (fun listed a2 V h hi hd => ?_) ?_
      · obtain ⟨u25, h25, e25⟩ := hd ⟨25, .data⟩ (by simp) rfl
        replace e25 : u25 = .bool false := e25
        subst e25
        replace h25 : a2.tmps[40]? = some _ := h25
        obtain ⟨u30, h30, e30⟩ := hd ⟨30, .data⟩ (by simp) rfl
        replace e30 : u30 = .bool false := e30
        subst e30
        replace h30 : a2.tmps[45]? = some _ := h30
        exact RInv.pure (v := .bool false) h hi rfl (wanted_none rfl) (fun _ => trivial) (by intro c; simp) (by simp [execOp, h25, h30, go_sem]) rfl
      exact trivial
    case fin =>
      rintro a2 V hV hs hdf hfx hph
      obtain ⟨u31, h31, e31⟩ := hph 31 (by omega)
      replace e31 : u31 = .bool false := e31
      subst e31
      replace h31 : a2.tmps[46]? = some _ := h31
      obtain ⟨tm, df⟩ := a2
      have hdf1 : df = [] := hdf
      subst hdf1
      have htm := tm_sets [15, 16, 17, 18, 19, 20, 21, 22, 23, 24, 25, 26, 27, 28, 29, 30, 31, 32, 33, 34, 35, 36, 37, 38, 39, 40, 41, 42, 43, 44, 45, 46] hs (fun t ht => hfx t (fun j hj e => ht (e ▸ (show ∀ j, j < 32 → (fun i => 15 + i) j ∈ [15, 16, 17, 18, 19, 20, 21, 22, 23, 24, 25, 26, 27, 28, 29, 30, 31, 32, 33, 34, 35, 36, 37, 38, 39, 40, 41, 42, 43, 44, 45, 46] by decide) j hj)))
      simp only [List.foldl_cons, List.foldl_nil, List.setIfInBounds_toArray, List.set_cons_succ, List.set_cons_zero] at htm
      rw [show tm.getD 46 undef = .bool false from by simp only [Array.getD_eq_getD_getElem?, h31, Option.getD_some]] at htm
      clear hs hdf hfx hph h31
      generalize tm.getD 15 undef = y15 at htm
      generalize tm.getD 16 undef = y16 at htm
      generalize tm.getD 17 undef = y17 at htm
      generalize tm.getD 18 undef = y18 at htm
      generalize tm.getD 19 undef = y19 at htm
      generalize tm.getD 20 undef = y20 at htm
      generalize tm.getD 21 undef = y21 at htm
      generalize tm.getD 22 undef = y22 at htm
      generalize tm.getD 23 undef = y23 at htm
      generalize tm.getD 24 undef = y24 at htm
      generalize tm.getD 25 undef = y25 at htm
      generalize tm.getD 26 undef = y26 at htm
      generalize tm.getD 27 undef = y27 at htm
      generalize tm.getD 28 undef = y28 at htm
      generalize tm.getD 29 undef = y29 at htm
      generalize tm.getD 30 undef = y30 at htm
      generalize tm.getD 31 undef = y31 at htm
      generalize tm.getD 32 undef = y32 at htm
      generalize tm.getD 33 undef = y33 at htm
      generalize tm.getD 34 undef = y34 at htm
      generalize tm.getD 35 undef = y35 at htm
      generalize tm.getD 36 undef = y36 at htm
      generalize tm.getD 37 undef = y37 at htm
      generalize tm.getD 38 undef = y38 at htm
      generalize tm.getD 39 undef = y39 at htm
      generalize tm.getD 40 undef = y40 at htm
      generalize tm.getD 41 undef = y41 at htm
      generalize tm.getD 42 undef = y42 at htm
      generalize tm.getD 43 undef = y43 at htm
      generalize tm.getD 44 undef = y44 at htm
      generalize tm.getD 45 undef = y45 at htm
      subst htm
      have hcV := hV.size
      have HV := Lib.hid hV
      clear hV
      go_wp2_with fail
      refine (scribble_any (fun b => b = w3.heap.size ∨ (w2.heap.size ≤ b ∧ b < w3.heap.size ∧ Cells w3 b)) (Tr.mk k n s c) 1048576 w3.heap.size 0 V (HSTR.out V HV.out) (by omega)).mono ?_
      rintro e V2 ⟨⟨u, rfl⟩, hs⟩
      obtain ⟨by1, by3, hr1, hr3, hbw⟩ := HFIN.out V V2 HV.out hs
      obtain ⟨xa0, xa1, xa2, xa3⟩ := four_at by1
      obtain ⟨xc0, xc1, xc2, xc3⟩ := four_at by3
      have HR1' := Lib.hid hr1
      have HR3' := Lib.hid hr3
      have HBW := Lib.hid hbw
      clear hs hr1 hr3 hbw by1 by3
      go_wp2_with fail
      refine (rEqual_any (Tr.mk k n s c) (Tr.mk k n s c) _ _ _ HR3'.out HR1'.out).mono ?_
      rw [eqB_refl]
      rintro e V3 ⟨rfl, hq⟩
      go_wp2_with fail
      go_ret
      exact ⟨rfl, HBW.out.trans (hq.mono HBW.out.size)⟩

end Go.Proofs.Ytkngdmilgfgclaa
