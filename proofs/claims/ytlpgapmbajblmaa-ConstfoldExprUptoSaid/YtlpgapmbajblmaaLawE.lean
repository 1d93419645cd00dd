/- The reference's Expr and the law ConstfoldExpr, walked in memory. -/
import Derived.Test.YtlpgapmbajblmaaFm2
import Derived.Test.YtlpgapmbajblmaaPq
import Derived.Test.YtlpgapmbajblmaaScr
import Derived.Test.YtlpgapmbajblmaaSrl
namespace Go.Proofs.Ytlpgapmbajblmaa
open Go.RowKit Go.Shelf

theorem Scr.below {X : Nat → Prop} {m B : Nat} {w w' : World} (h : Scr X m w w') (hX : ∀ b, X b → B ≤ b) : Below B w w' :=
  ⟨h.os, h.tape, h.output, Nat.le_of_eq h.size.symm, fun b hb => h.other b (fun q => by have := hX b q; omega)⟩

set_option maxRecDepth 100000 in
set_option maxHeartbeats 2000000 in
/-- the reference's Expr -/
theorem rexpr_mem (t : Tr) (hsz : t.size ≤ 1000000) (v : Value) (w : World) (hr : Rep w w.heap.size t v) : Calls Try.prog 19 #[v] w fun e w' => ∃ v', e = .returned v' ∧ Rep w' w'.heap.size (exprT t) v' ∧ Below w.heap.size w w' := by
  obtain ⟨k, n, s, c⟩ := t
  have hr' := hr
  simp only [Rep] at hr'
  obtain ⟨A, cap, rfl, _, _⟩ := hr'
  have HV := Lib.hid hr
  clear hr
  unfold nodeV at *
  go_enter Try.func19, Try.ntmps19
  go_wp2_with fail
  have hb0 : Below w.heap.size w ((w.alloc (.cells #[.int .u8 k, .int .i64 n, .string s, .slice A c.length cap] 24)).alloc (.cells #[.int .u8 0, .int .i64 0, .string ⟨#[]⟩, .slice none 0 0] 24)) := ((Below.refl _ w).alloc (Nat.le_refl _) _).alloc (by simp) _
  refine (rExpr_any (.mk k n s c) _ _ (HV.out.at_ (Nat.le_refl _) hb0)).mono ?_
  rintro e w1 ⟨rfl, hb1⟩
  have hb1' : Below (w.heap.size + 2) ((w.alloc (.cells #[.int .u8 k, .int .i64 n, .string s, .slice A c.length cap] 24)).alloc (.cells #[.int .u8 0, .int .i64 0, .string ⟨#[]⟩, .slice none 0 0] 24)) w1 := by simpa using hb1
  obtain ⟨q1, q2⟩ := two_boxes hb1'
  have hsz1 := hb1'.size
  simp only [World.size_alloc] at hsz1
  have HB1 := Lib.hid (hb0.trans (hb1'.mono (by omega)))
  have HQ1 := Lib.hid q1
  have HQ2 := Lib.hid q2
  obtain ⟨p0, p1, p2, p3⟩ := four_at q1
  clear hb1 hb1' q1 q2 hb0
  cases hx : exprB (.mk k n s c) with
  | false =>
    have hT : exprT (.mk k n s c) = .mk k n s c := by unfold exprT; rw [if_neg (by rw [hx]; simp)]
    have HT := Lib.hid hT
    clear hT hx
    go_wp2_with fail
    refine (copy_typed (.mk k n s c) _ _ (HV.out.at_ (Nat.le_refl _) HB1.out) hsz).mono ?_
    rintro e w2 ⟨v2, rfl, hr2, hb2⟩
    obtain ⟨A2, cap2, rfl, _, _⟩ := nodeOf hr2
    unfold nodeV at *
    have hsz2 := hb2.size
    have q2 := (hb2.block _ (by omega)).trans HQ2.out
    obtain ⟨r0, r1, r2, r3⟩ := four_at q2
    have rf := fun j => frozen_of_row w2 _ j _ _ q2
    have HR2 := Lib.hid hr2
    have HB2 := Lib.hid hb2
    have Q2 := Lib.hid q2
    clear hr2 hb2 q2 p0 p1 p2 p3
    go_wp2_with fail
    refine ret_node rfl rfl (set4 _ _ _ _ Q2.out) rfl ⟨_, rfl, ?_, ?_⟩
    · rw [HT.out]
      refine RepP.lt (ok := fun b => w1.heap.size ≤ b ∧ b < w2.heap.size) (RepP.keep (fun b q => ⟨q.1, q.2.1⟩) (fun b o q => ?_) _ HR2.out) (fun b q => by simp [World.setCell]; omega)
      exact World.cell?_of_block ((heap_setCell_other _ _ _ _ (by simp; omega)).trans ((heap_setCell_other _ _ _ _ (by simp; omega)).trans ((heap_setCell_other _ _ _ _ (by simp; omega)).trans (heap_setCell_other _ _ _ _ (by simp; omega)))))
    · exact ((((HB1.out.trans (HB2.out.mono (by omega))).setCell (by simp) _).setCell (by simp) _).setCell (by simp) _).setCell (by simp) _
  | true =>
    have hT : exprT (.mk k n s c) = rfoldT (.mk k n s c) := by unfold exprT; rw [if_pos hx, rfold_fold _ hx]
    have HT := Lib.hid hT
    clear hT hx
    go_wp2_with fail
    have hvv := HV.out.at_ (Nat.le_refl _) HB1.out
    refine (calls_of_fn (rfold_fn (.mk k n s c) hsz) (ok := fun b => b < w1.heap.size ∧ b ≠ w.heap.size + 1) (fun _ q => q.1) (vals_one_of (val_of_rep (ok := fun b => b < w1.heap.size ∧ b ≠ w.heap.size + 1) (fun _ _ q => q) (RepP.keep (ok := fun b => b < w.heap.size) (fun b q => ⟨by omega, by omega⟩) (fun b o q => HB1.out.cell (p := ⟨b, o, none⟩) q) _ (RepP.of _ HV.out))))).mono ?_
    rintro e w2 ⟨v2, g', rfl, hb2, hd, hok⟩
    have hr2 := repP_of_val (ok := fun b => b < w2.heap.size ∧ b ≠ w.heap.size + 1) (fun b o q => by have := hb2.size; rcases hok b o q with q | q <;> omega) hd
    obtain ⟨A2, cap2, rfl, _, _⟩ := nodeOf hr2
    unfold nodeV at *
    have hsz2 := hb2.size
    have q2 := (hb2.block _ (by omega)).trans HQ2.out
    obtain ⟨r0, r1, r2, r3⟩ := four_at q2
    have rf := fun j => frozen_of_row w2 _ j _ _ q2
    have HR2 := Lib.hid hr2
    have HB2 := Lib.hid hb2
    have Q2 := Lib.hid q2
    clear hr2 hb2 q2 p0 p1 p2 p3 hd hok hvv
    go_wp2_with fail
    refine ret_node rfl rfl (set4 _ _ _ _ Q2.out) rfl ⟨_, rfl, ?_, ?_⟩
    · rw [HT.out]
      refine RepP.lt (ok := fun b => b < w2.heap.size ∧ b ≠ w.heap.size + 1) (RepP.keep (fun b q => q) (fun b o q => ?_) _ HR2.out) (fun b q => by simp [World.setCell]; omega)
      exact World.cell?_of_block ((heap_setCell_other _ _ _ _ (by simp; omega)).trans ((heap_setCell_other _ _ _ _ (by simp; omega)).trans ((heap_setCell_other _ _ _ _ (by simp; omega)).trans (heap_setCell_other _ _ _ _ (by simp; omega)))))
    · exact ((((HB1.out.trans (HB2.out.mono (by omega))).setCell (by simp) _).setCell (by simp) _).setCell (by simp) _).setCell (by simp) _

set_option maxRecDepth 100000 in
set_option maxHeartbeats 2000000 in
theorem constfoldExpr_any (t : Tr) (v1 : Value) (w : World) (hr1 : Rep w w.heap.size t v1) (hn : t.names 1048576) :
    Calls Try.prog 4 #[v1] w fun e w' => e = .returned (.bool true) ∧ Below w.heap.size w w' := by
  have hmo : Try.prog.follows .mixedOrders = true := by kernel_rfl
  have hfn : ∀ f, Fence.wide.fn f := fun _ => trivial
  have hdp : Fence.wide.depth.isSome = false := rfl
  obtain ⟨k, n, s, c⟩ := t
  have hr1' := hr1
  simp only [Rep] at hr1'
  obtain ⟨A1, cap1, rfl, _, _⟩ := hr1'
  obtain ⟨kx, nx, sx, cx, hX⟩ : ∃ kx nx sx cx, exprT (Tr.mk k n s c) = .mk kx nx sx cx := by
    cases h : exprT (Tr.mk k n s c) with
    | mk a b c d => exact ⟨a, b, c, d, rfl⟩
  have HXT := Lib.hid hX
  unfold nodeV at *
  have hbx : Below w.heap.size w (w.alloc (.cells #[.int .u8 k, .int .i64 n, .string s, .slice A1 c.length cap1] 24)) := (Below.refl _ _).alloc (Nat.le_refl _) _
  have HQ := Lib.hid (hr1.at_ (Nat.le_refl _) hbx)
  have HR := Lib.hid hr1
  have HN := Lib.hid hn
  have hnew := heap_alloc_new w (.cells #[.int .u8 k, .int .i64 n, .string s, .slice A1 c.length cap1] 24)
  have HBX := Lib.hid hbx
  clear hr1 hbx hn hX
  go_enter Try.func4, Try.ntmps4
  go_wp2_with fail
  refine (calls_of_fn awake_ok (ok := fun _ => False) (fun _ q => q.elim) (vs := []) ⟨rfl, fun j h => absurd h (Nat.not_lt_zero _)⟩).mono ?_
  rintro e w1 ⟨u, g', rfl, hb, hd, _⟩
  obtain rfl := val_bool hd
  have HCw1 := Lib.hid hb
  have bx1 := (hb.block w.heap.size (by simp)).trans hnew
  obtain ⟨xa0, xa1, xa2, xa3⟩ := four_at bx1
  clear hb hd
  go_wp2_with fail
  refine (big_any (Tr.mk k n s c) _ _ (HQ.out.at_ (Nat.le_refl _) HCw1.out)).mono ?_
  rintro e w2 ⟨rfl, hb⟩
  have HCw2 := Lib.hid (HCw1.out.trans (hb.mono HCw1.out.size))
  clear xa0 xa1 xa2 xa3 bx1
  have bx1 := (HCw2.out.block w.heap.size (by simp)).trans hnew
  obtain ⟨xa0, xa1, xa2, xa3⟩ := four_at bx1
  clear hb
  cases hg : bigB (Tr.mk k n s c)
  case true =>
    go_wp2_with fail
    go_ret
    exact ⟨rfl, HBX.out.trans (HCw2.out.mono (by simp))⟩
  case false =>
    have hsz := bigB_no hg
    have hsz2 := HCw2.out.size
    simp only [World.size_alloc] at hsz2
    go_wp2_with fail
    refine (copy_typed (Tr.mk k n s c) _ _ (HQ.out.at_ (Nat.le_refl _) HCw2.out) (by omega)).mono ?_
    rintro e w3 ⟨v2, rfl, hr2, hb3⟩
    obtain ⟨A2, cap2, rfl, _, _⟩ := nodeOf hr2
    unfold nodeV at *
    simp only [Tr.kind, Tr.num, Tr.name, Tr.kids] at *
    have hsz3 := hb3.size
    have HR2P := Lib.hid hr2
    have HB3 := Lib.hid hb3
    clear hr2 hb3 xa0 xa1 xa2 xa3
    go_wp2_with fail
    refine (expr_mem (Tr.mk k n s c) (by omega) _ _ ((HR2P.out.lt (fun b q => q.2.1)).alloc (Nat.le_refl _) _)).mono ?_
    rintro e w4 ⟨v3, rfl, hr3, hb4⟩
    rw [HXT.out] at hr3
    obtain ⟨A3, cap3, rfl, _, _⟩ := nodeOf hr3
    unfold nodeV at *
    simp only [Tr.kind, Tr.num, Tr.name, Tr.kids] at *
    have hsz4 := hb4.size
    simp only [World.size_alloc] at hsz4
    have HR3P := Lib.hid hr3
    have HB4 := Lib.hid hb4
    clear hr3 hb4
    have b34 : Below w3.heap.size w3 (w4.alloc (.cells #[.int .u8 kx, .int .i64 nx, .string sx, .slice A3 cx.length cap3] 24)) := (((Below.refl _ w3).alloc (Nat.le_refl _) (.cells #[.int .u8 k, .int .i64 n, .string s, .slice A2 c.length cap2] 24)).trans (HB4.out.mono (by simp))).alloc (by omega) _
    have b2W : Below w2.heap.size w2 (w4.alloc (.cells #[.int .u8 kx, .int .i64 nx, .string sx, .slice A3 cx.length cap3] 24)) := HB3.out.trans (b34.mono hsz3)
    replace bx1 := (b2W.block w.heap.size (by omega)).trans bx1
    have bx2 : (w4.alloc (.cells #[.int .u8 kx, .int .i64 nx, .string sx, .slice A3 cx.length cap3] 24)).heap[w3.heap.size]? = some (.cells #[.int .u8 k, .int .i64 n, .string s, .slice A2 c.length cap2] 24 (0, 0)) := (Below.heap_alloc _ _ _ (by omega)).trans ((HB4.out.block w3.heap.size (by simp)).trans (heap_alloc_new w3 _))
    have bx3 : (w4.alloc (.cells #[.int .u8 kx, .int .i64 nx, .string sx, .slice A3 cx.length cap3] 24)).heap[w4.heap.size]? = some (.cells #[.int .u8 kx, .int .i64 nx, .string sx, .slice A3 cx.length cap3] 24 (0, 0)) := heap_alloc_new w4 _
    have HR1 := Lib.hid ((HQ.out.at_ (Nat.le_refl _) HCw2.out).at_ (Nat.le_refl _) b2W)
    have HR2 := Lib.hid ((HR2P.out.lt (fun b q => q.2.1)).at_ (Nat.le_refl _) b34)
    have b4W : Below w4.heap.size w4 (w4.alloc (.cells #[.int .u8 kx, .int .i64 nx, .string sx, .slice A3 cx.length cap3] 24)) := (Below.refl _ w4).alloc (Nat.le_refl _) _
    have hszW : (w4.alloc (.cells #[.int .u8 kx, .int .i64 nx, .string sx, .slice A3 cx.length cap3] 24)).heap.size = w4.heap.size + 1 := by simp
    have hbW : Below w.heap.size w (w4.alloc (.cells #[.int .u8 kx, .int .i64 nx, .string sx, .slice A3 cx.length cap3] 24)) := HBX.out.trans ((HCw2.out.mono (by simp)).trans (b2W.mono (by omega)))
    have HBWW := Lib.hid hbW
    have HB34 := Lib.hid b34
    have HB4W := Lib.hid b4W
    have HBX2 := Lib.hid bx2
    have HBX1 := Lib.hid bx1
    have HBX3 := Lib.hid bx3
    have hstr : ∀ V, Below (w4.alloc (.cells #[.int .u8 kx, .int .i64 nx, .string sx, .slice A3 cx.length cap3] 24)).heap.size (w4.alloc (.cells #[.int .u8 kx, .int .i64 nx, .string sx, .slice A3 cx.length cap3] 24)) V → Str V (fun b => b = w3.heap.size ∨ (w2.heap.size ≤ b ∧ b < w3.heap.size ∧ Cells w3 b)) 1048576 (Tr.mk k n s c) w3.heap.size 0 := fun V hV => by
      have by2 := (hV.block w3.heap.size (by omega)).trans HBX2.out
      obtain ⟨y0, y1, y2, y3⟩ := four_at by2
      refine str_of (fun b q => ?_) (Tr.mk k n s c) HN.out (RepP.keep (fun b q => .inr q) (fun b o q => ?_) _ HR2P.out) (.inl rfl) y1 y2 y3
      · rcases q with rfl | ⟨q1, q2, q3⟩
        · exact ⟨_, _, by2⟩
        · exact q3.of ((hV.block b (by omega)).trans (HB34.out.block b q2))
      · exact (hV.cell (p := ⟨b, o, none⟩) (show b < (w4.alloc (.cells #[.int .u8 kx, .int .i64 nx, .string sx, .slice A3 cx.length cap3] 24)).heap.size by have := q.2.1; omega)).trans (HB34.out.cell (p := ⟨b, o, none⟩) q.2.1)
    have HSTR := Lib.hid hstr
    have hfin : ∀ V V2, Below (w4.alloc (.cells #[.int .u8 kx, .int .i64 nx, .string sx, .slice A3 cx.length cap3] 24)).heap.size (w4.alloc (.cells #[.int .u8 kx, .int .i64 nx, .string sx, .slice A3 cx.length cap3] 24)) V → Scr (fun b => b = w3.heap.size ∨ (w2.heap.size ≤ b ∧ b < w3.heap.size ∧ Cells w3 b)) (Tr.size (Tr.mk k n s c)) V V2 →
        V2.heap[w.heap.size]? = some (.cells #[.int .u8 k, .int .i64 n, .string s, .slice A1 c.length cap1] 24 (0, 0)) ∧ V2.heap[w4.heap.size]? = some (.cells #[.int .u8 kx, .int .i64 nx, .string sx, .slice A3 cx.length cap3] 24 (0, 0)) ∧ Rep V2 V2.heap.size (Tr.mk k n s c) (.agg #[.int .u8 k, .int .i64 n, .string s, .slice A1 c.length cap1]) ∧ Rep V2 V2.heap.size (Tr.mk kx nx sx cx) (.agg #[.int .u8 kx, .int .i64 nx, .string sx, .slice A3 cx.length cap3]) ∧ Below w.heap.size w V2 := fun V V2 hV hs => by
      have hbV := HBWW.out.trans (hV.mono (by omega))
      have hb2 : Below w.heap.size w V2 := hbV.trans (hs.below (fun b q => by omega))
      have hz := hV.size
      have hz2 := hs.size
      refine ⟨(hs.other _ (fun q => by omega)).trans ((hV.block _ (by omega)).trans HBX1.out), (hs.other _ (fun q => by omega)).trans ((hV.block _ (by omega)).trans HBX3.out), HR.out.at_ (Nat.le_refl _) hb2, RepP.lt (ok := fun b => w3.heap.size + 1 ≤ b ∧ b < w4.heap.size) ?_ (fun b q => by omega), hb2⟩
      have h3 := HR3P.out
      simp only [World.size_alloc] at h3
      refine RepP.keep (fun b q => q) (fun b o q => ?_) _ h3
      exact (World.cell?_of_block (hs.other b (fun q' => by omega))).trans ((hV.cell (p := ⟨b, o, none⟩) (show b < (w4.alloc (.cells #[.int .u8 kx, .int .i64 nx, .string sx, .slice A3 cx.length cap3] 24)).heap.size by omega)).trans (HB4W.out.cell (p := ⟨b, o, none⟩) q.2))
    have HFIN := Lib.hid hfin
    obtain ⟨xa0, xa1, xa2, xa3⟩ := four_at bx1
    obtain ⟨xb0, xb1, xb2, xb3⟩ := four_at bx2
    clear b34 b2W b4W hbW bx1 bx2 bx3 hstr hfin
    go_wp2_with fail
    refine (rEqual_any (Tr.mk k n s c) (Tr.mk k n s c) _ _ _ HR2.out HR1.out).mono ?_
    rw [eqB_refl]
    rintro e V ⟨rfl, hV⟩
    have HV := Lib.hid hV
    clear hV xa0 xa1 xa2 xa3 xb0 xb1 xb2 xb3
    go_wp2_with fail
    refine (scribble_any (fun b => b = w3.heap.size ∨ (w2.heap.size ≤ b ∧ b < w3.heap.size ∧ Cells w3 b)) (Tr.mk k n s c) 1048576 w3.heap.size 0 V (HSTR.out V HV.out) (by omega)).mono ?_
    rintro e V2 ⟨⟨u, rfl⟩, hs⟩
    obtain ⟨by1, by3, hr1, hr3, hbw⟩ := HFIN.out V V2 HV.out hs
    obtain ⟨xa0, xa1, xa2, xa3⟩ := four_at by1
    obtain ⟨xc0, xc1, xc2, xc3⟩ := four_at by3
    have HR1' := Lib.hid hr1
    have HR3' := Lib.hid hr3
    have HBW := Lib.hid hbw
    clear hs hr1 hr3 hbw by1 by3
    go_wp2_with fail
    refine (wpIn_wide (n := 0)).1 (serial [] hmo ?_)
    simp only [List.size_toArray, List.length_cons, List.length_nil, Nat.reduceAdd]
    refine takeL (via := []) (v := ?_) hfn (by kernel_rfl) (i := 0) rfl (by kernel_rfl) (wanted_none rfl) (fun w' hbk => ?_) ?_
    rotate_left
    · simp [execOp, go_sem, keepc hbk xc0, keepc hbk xc1, keepc hbk xc2, keepc hbk xc3]; exact rfl
    simp only [Act.put, List.setIfInBounds_toArray, List.set_cons_succ, List.set_cons_zero]
    refine takeL (via := []) (v := ?_) hfn (by kernel_rfl) (i := 1) rfl (by kernel_rfl) (wanted_none rfl) (fun w' hbk => ?_) ?_
    rotate_left
    · simp [execOp, go_sem, keepc hbk xa0, keepc hbk xa1, keepc hbk xa2, keepc hbk xa3]; exact rfl
    simp only [Act.put, List.setIfInBounds_toArray, List.set_cons_succ, List.set_cons_zero]
    refine runC (f := ?_) (args := ?_) hfn hdp (by kernel_rfl) (j := 2) rfl (by kernel_rfl) (wanted_none rfl) ?_ ?_
    rotate_left; rotate_left
    · simp [go_sem]; (refine And.intro ?_ ?_ <;> exact rfl)
    refine (callsIn_wide.2 (rexpr_mem (Tr.mk k n s c) (by omega) _ _ (HR1'.out.at_ (Nat.le_refl _) (Below.refl _ V2).drew))).mono ?_
    rintro e w5 ⟨v5, rfl, hr5, hb5⟩
    obtain ⟨A5, cap5, rfl, _, _⟩ := nodeOf (RepP.of _ hr5)
    unfold nodeV at *
    refine ⟨_, rfl, fun _ => hb5, ?_⟩
    simp only [Act.put, List.setIfInBounds_toArray, List.set_cons_succ, List.set_cons_zero]
    refine runC (f := ?_) (args := ?_) hfn hdp (by kernel_rfl) (j := 3) rfl (by kernel_rfl) (wanted_none rfl) ?_ ?_
    rotate_left; rotate_left
    · simp [go_sem]; (refine And.intro ?_ ?_ <;> exact rfl)
    refine (callsIn_wide.2 (rEqual_any (Tr.mk kx nx sx cx) (Tr.mk kx nx sx cx) _ _ _ (HR3'.out.at_ (Nat.le_refl _) ((Below.refl _ V2).drew.trans (hb5.mono (Nat.le_refl _)))) (HXT.out ▸ hr5))).mono ?_
    rw [eqB_refl]
    rintro e w6 ⟨rfl, hb6⟩
    refine ⟨_, rfl, fun _ => hb6, ?_⟩
    simp only [Act.put, List.setIfInBounds_toArray, List.set_cons_succ, List.set_cons_zero]
    refine takeF (v := ?_) hfn (by kernel_rfl) (i := 4) rfl (by kernel_rfl) (wanted_none rfl) (fun w' => ?_) ?_
    rotate_left
    · simp [execOp, go_sem]; exact rfl
    simp only [Act.put, List.setIfInBounds_toArray, List.set_cons_succ, List.set_cons_zero]
    refine doneK (by kernel_rfl) ?_
    go_wp2_with fail
    go_ret
    exact ⟨rfl, HBW.out.trans (((Below.refl _ V2).drew.trans (hb5.trans (hb6.mono hb5.size))).mono HBW.out.size)⟩

end Go.Proofs.Ytlpgapmbajblmaa
