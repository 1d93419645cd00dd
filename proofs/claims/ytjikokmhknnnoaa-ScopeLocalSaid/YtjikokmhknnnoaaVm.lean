/- visit in memory. -/
import Derived.Test.YtjikokmhknnnoaaMv
namespace Go.Proofs.Ytjikokmhknnnoaa
open Go.RowKit Go.Shelf

theorem prog_shape {w : World} {g : Gh} {p : Pg} {v : Value} (h : val w g (dG p) v) : ∃ (A1 A2 A3 : Option Addr) (c1 c2 c3 : Nat), v = .agg #[.slice A1 p.vars.length c1, .slice A2 p.procs.length c2, .int .u8 p.main.kind, .int .i64 p.main.num, .string p.main.name, .slice A3 p.main.kids.length c3] := by
  unfold dG at h
  obtain ⟨us, rfl, hR⟩ := val_agg h
  have hl := R_agg_len hR
  match us, hl with
  | [x0, x1, x2, x3, x4, x5], _ =>
    obtain ⟨_, r0⟩ := R_agg_at hR 0 (by simp)
    obtain ⟨_, r1⟩ := R_agg_at hR 1 (by simp)
    obtain ⟨_, r2⟩ := R_agg_at hR 2 (by simp)
    obtain ⟨_, r3⟩ := R_agg_at hR 3 (by simp)
    obtain ⟨_, r4⟩ := R_agg_at hR 4 (by simp)
    obtain ⟨_, r5⟩ := R_agg_at hR 5 (by simp)
    obtain ⟨A1, c1, _, e0, _⟩ := val_slice (val_of_R (d := .slice .imm (if (p.vars.map dV).isEmpty then 0 else 3) (p.vars.map dV)) r0 rfl)
    obtain ⟨A2, c2, _, e1, _⟩ := val_slice (val_of_R (d := .slice .imm (if (p.procs.map dP).isEmpty then 0 else 6) (p.procs.map dP)) r1 rfl)
    obtain ⟨e2, _⟩ := R_int r2
    obtain ⟨e3, _⟩ := R_int r3
    obtain ⟨e4, _⟩ := R_str r4
    obtain ⟨A3, c3, _, e5, _⟩ := val_slice (val_of_R (d := .slice .imm (if (p.main.kids.map dN).isEmpty then 0 else 4) (p.main.kids.map dN)) r5 rfl)
    simp only [List.getElem_cons_zero, List.getElem_cons_succ, List.cons.injEq, and_true, List.length_map] at e0 e1 e2 e3 e4 e5
    exact ⟨A1, A2, A3, c1, c2, c3, by rw [e0, e1, e2, e3, e4, e5]⟩

theorem sizes_drop_le (c : List Tr) : ∀ i, Tr.sizes (c.drop i) ≤ Tr.sizes c := by
  induction c with
  | nil => intro i; simp [Tr.sizes]
  | cons x r ih =>
    intro i
    cases i with
    | zero => simp
    | succ i => have := ih i; simp only [List.drop_succ_cons, Tr.sizes]; omega

set_option maxRecDepth 100000 in
set_option maxHeartbeats 4000000 in
theorem visit_mem {p : Pg} {kf : Nat} {caps : List Value} {ok0 : Nat → Nat → Prop} {B0 F : Nat} {pr : Int} {I : World → Value → Prop} (hp : p.procs.length ≤ 1000000) (hRF : RepF ok0 B0 F pr I kf caps) : ∀ (N : Nat) (t : Tr), t.size ≤ N → ∀ (w : World) (v : Value) (L : List Ft) (path : List Int) (vs : List Vd) (vp vn vq vv : Value), Rs ok0 B0 F w v L → I w v → val w (okGh (Okv ok0 B0 F w v)) (dG p) vp → val w (okGh (Okv ok0 B0 F w v)) (dN t) vn → val w (okGh (Okv ok0 B0 F w v)) (sl 1 (path.map dI)) vq → val w (okGh (Okv ok0 B0 F w v)) (sl 3 (vs.map dV)) vv →
    path.length + t.size ≤ 1000000 → vs.length + t.size ≤ 1000000 → L.length + t.size ≤ 1000000 →
    Calls Try.prog 47 #[vp, vn, vq, vv, .func (.func kf) #[] caps.toArray] w fun e w' => ∃ v', (∃ u, e = .returned u) ∧ Rs ok0 B0 F w' v' (L ++ visF p pr t path vs) ∧ Mv F w v w' v' := by
  have hmo : Try.prog.follows .mixedOrders = true := by kernel_rfl
  have hfn : ∀ f, Fence.wide.fn f := fun _ => trivial
  have hdp : Fence.wide.depth.isSome = false := rfl
  intro N
  induction N with
  | zero => intro t h; cases t; simp only [Tr.size] at h; omega
  | succ N IH =>
    intro t hN w v L path vs vp vn vq vv hR hI hvp hvn hvq hvv hpl hvl hLl
    obtain ⟨k, n, s, c⟩ := t
    obtain ⟨A1, A2, A3, c1, c2, c3, rfl⟩ := prog_shape hvp
    have hrep := rep_of_val hR.okB hvn
    simp only [Rep] at hrep
    obtain ⟨A, cap, rfl, hf, _⟩ := hrep
    have HFS := Lib.hid hf.s1
    unfold nodeV at *
    have hM0 : Mv F w v ((w.alloc (.cells #[.slice A1 p.vars.length c1, .slice A2 p.procs.length c2, .int .u8 p.main.kind, .int .i64 p.main.num, .string p.main.name, .slice A3 p.main.kids.length c3] 30)).alloc (.cells #[.int .u8 k, .int .i64 n, .string s, .slice A c.length cap] 28)) v := .of_below (((Below.refl _ w).alloc (Nat.le_refl _) _).alloc (by simp) _)
    have hszW0 : ((w.alloc (.cells #[.slice A1 p.vars.length c1, .slice A2 p.procs.length c2, .int .u8 p.main.kind, .int .i64 p.main.num, .string p.main.name, .slice A3 p.main.kids.length c3] 30)).alloc (.cells #[.int .u8 k, .int .i64 n, .string s, .slice A c.length cap] 28)).heap.size = w.heap.size + 2 := by simp
    have HR0 := Lib.hid (hR.below (((Below.refl _ w).alloc (Nat.le_refl _) (.cells #[.slice A1 p.vars.length c1, .slice A2 p.procs.length c2, .int .u8 p.main.kind, .int .i64 p.main.num, .string p.main.name, .slice A3 p.main.kids.length c3] 30)).alloc (by simp) (.cells #[.int .u8 k, .int .i64 n, .string s, .slice A c.length cap] 28)))
    have HP0 := Lib.hid (hR.val hM0 hvp)
    have HN0 := Lib.hid (hR.val hM0 hvn)
    have HV0 := Lib.hid (hR.val hM0 hvv)
    have hbp : ((w.alloc (.cells #[.slice A1 p.vars.length c1, .slice A2 p.procs.length c2, .int .u8 p.main.kind, .int .i64 p.main.num, .string p.main.name, .slice A3 p.main.kids.length c3] 30)).alloc (.cells #[.int .u8 k, .int .i64 n, .string s, .slice A c.length cap] 28)).heap[w.heap.size]? = some (.cells #[.slice A1 p.vars.length c1, .slice A2 p.procs.length c2, .int .u8 p.main.kind, .int .i64 p.main.num, .string p.main.name, .slice A3 p.main.kids.length c3] 30 (0, 0)) := heap_alloc2_old w _ _
    have hbn : ((w.alloc (.cells #[.slice A1 p.vars.length c1, .slice A2 p.procs.length c2, .int .u8 p.main.kind, .int .i64 p.main.num, .string p.main.name, .slice A3 p.main.kids.length c3] 30)).alloc (.cells #[.int .u8 k, .int .i64 n, .string s, .slice A c.length cap] 28)).heap[w.heap.size + 1]? = some (.cells #[.int .u8 k, .int .i64 n, .string s, .slice A c.length cap] 28 (0, 0)) := heap_alloc2_new w _ _
    obtain ⟨fp0, fp1, fp2, fp3, fp4, fp5⟩ := six_at hbp
    obtain ⟨fn0, fn1, fn2, fn3⟩ := four_at' hbn
    have HM0 := Lib.hid hM0
    have HBP := Lib.hid hbp
    have HBN := Lib.hid hbn
    have HLTF := Lib.hid hR.lt
    have HLTV := Lib.hid hR.row.lt
    have HR := Lib.hid hR
    have HI := Lib.hid hI
    have HQ := Lib.hid hvq
    have HV := Lib.hid hvv
    have HP := Lib.hid hvp
    have HN := Lib.hid hvn
    have HRF := Lib.hid hRF
    have hent := hRF.enter
    have IHH := Lib.hid IH
    have hsz := sizes_ge c
    simp only [Tr.size] at hN hpl hvl hLl
    clear hR hI hvp hvn hvq hvv hM0 hbp hbn IH hf
    go_enter Try.func47, Try.ntmps47
    go_wp2_with fail
    refine (wpIn_wide (n := 0)).1 (serial [8] hmo ?_)
    simp only [List.size_toArray, List.length_cons, List.length_nil, Nat.reduceAdd]
    refine takeF (v := ?_) hfn (by kernel_rfl) (i := 0) rfl (by kernel_rfl) (wanted_none rfl) (fun w' => ?_) ?_
    rotate_left
    · simp [execOp, go_sem]; exact rfl
    simp only [Act.put, List.setIfInBounds_toArray, List.set_cons_succ, List.set_cons_zero]
    refine takeF (v := ?_) hfn (by kernel_rfl) (i := 1) rfl (by kernel_rfl) (wanted_none rfl) (fun w' => ?_) ?_
    rotate_left
    · simp [execOp, go_sem]; exact rfl
    simp only [Act.put, List.setIfInBounds_toArray, List.set_cons_succ, List.set_cons_zero]
    refine takeF (v := ?_) hfn (by kernel_rfl) (i := 2) rfl (by kernel_rfl) (wanted_none rfl) (fun w' => ?_) ?_
    rotate_left
    · simp [execOp, go_sem]; exact rfl
    simp only [Act.put, List.setIfInBounds_toArray, List.set_cons_succ, List.set_cons_zero]
    refine takeL (via := []) (v := ?_) hfn (by kernel_rfl) (i := 3) rfl (by kernel_rfl) (wanted_none rfl) (fun w' hbk => ?_) ?_
    rotate_left
    · simp [execOp, go_sem, keepc hbk fn2]; exact rfl
    simp only [Act.put, List.setIfInBounds_toArray, List.set_cons_succ, List.set_cons_zero]
    refine takeL (via := [[8, 7]]) (v := ?_) hfn (by kernel_rfl) (i := 4) rfl (by kernel_rfl) (wanted_none rfl) (fun w' hbk => ?_) ?_
    rotate_left
    · simp [execOp, go_sem, keepc hbk fp0, keepc hbk fp1, keepc hbk fp2, keepc hbk fp3, keepc hbk fp4, keepc hbk fp5]; exact rfl
    simp only [Act.put, List.setIfInBounds_toArray, List.set_cons_succ, List.set_cons_zero]
    refine takeL (via := [[8, 7]]) (v := ?_) hfn (by kernel_rfl) (i := 5) rfl (by kernel_rfl) (wanted_none rfl) (fun w' hbk => ?_) ?_
    rotate_left
    · simp [execOp, go_sem, keepc hbk fn0, keepc hbk fn1, keepc hbk fn2, keepc hbk fn3]; exact rfl
    simp only [Act.put, List.setIfInBounds_toArray, List.set_cons_succ, List.set_cons_zero]
    refine takeF (v := ?_) hfn (by kernel_rfl) (i := 6) rfl (by kernel_rfl) (wanted_none rfl) (fun w' => ?_) ?_
    rotate_left
    · simp [execOp, go_sem]; exact rfl
    simp only [Act.put, List.setIfInBounds_toArray, List.set_cons_succ, List.set_cons_zero]
    refine runC (f := ?_) (args := ?_) hfn hdp (by kernel_rfl) (j := 7) rfl (by kernel_rfl) (wanted_none rfl) ?_ ?_
    rotate_left; rotate_left
    · simp [go_sem]; (refine And.intro ?_ ?_ <;> exact rfl)
    refine (callsIn_wide.2 (dcall (fault_fn p (Tr.mk k n s c) vs (by omega) hp) HR0.out.drew (vals_three (HR0.out.val (Mv.of_below (Below.refl _ _).drew) HP0.out) (HR0.out.val (Mv.of_below (Below.refl _ _).drew) HN0.out) (HR0.out.val (Mv.of_below (Below.refl _ _).drew) HV0.out)))).mono ?_
    rintro e w1 ⟨ve, rfl, hb1, hq⟩
    obtain ⟨rfl, hei⟩ := val_int hq
    refine ⟨_, rfl, fun _ => hb1, ?_⟩
    simp only [Act.put, List.setIfInBounds_toArray, List.set_cons_succ, List.set_cons_zero]
    refine runC (f := ?_) (args := ?_) hfn hdp (by kernel_rfl) (j := 8) rfl (by kernel_rfl) (wanted_none rfl) ?_ ?_
    rotate_left; rotate_left
    · simp [execOp, go_sem, hent]; (refine And.intro ?_ ?_ <;> exact rfl)
    have hR1 := HR0.out.drew.below hb1
    have hM1 : Mv F w v w1 v := HM0.out.trans ((Mv.of_below (Below.refl _ _).drew).trans (.of_below hb1))
    refine (callsIn_wide.2 (HRF.out.call w1 v L path s (faultE p (Tr.mk k n s c) vs) vq hR1 (HRF.out.keep _ _ _ _ HI.out hM1) hei HFS.out (HR.out.val hM1 HQ.out) (by omega) (by omega))).mono ?_
    rintro e w2 ⟨v2, ⟨u, rfl⟩, hR2, hM2⟩
    refine ⟨_, rfl, fun e => (by cases e), ?_⟩
    simp only [Act.put, List.setIfInBounds_toArray, List.set_cons_succ, List.set_cons_zero]
    refine doneK (by kernel_rfl) ?_
    have hsz1 : w.heap.size + 2 ≤ w1.heap.size := by have := hb1.size; rw [← hszW0]; exact this
    have hb1' : Below (w.heap.size + 2) ((w.alloc (.cells #[.slice A1 p.vars.length c1, .slice A2 p.procs.length c2, .int .u8 p.main.kind, .int .i64 p.main.num, .string p.main.name, .slice A3 p.main.kids.length c3] 30)).alloc (.cells #[.int .u8 k, .int .i64 n, .string s, .slice A c.length cap] 28)) w1 := ((Below.refl _ ((w.alloc (.cells #[.slice A1 p.vars.length c1, .slice A2 p.procs.length c2, .int .u8 p.main.kind, .int .i64 p.main.num, .string p.main.name, .slice A3 p.main.kids.length c3] 30)).alloc (.cells #[.int .u8 k, .int .i64 n, .string s, .slice A c.length cap] 28))).drew.trans hb1).mono (show w.heap.size + 2 ≤ ((w.alloc (.cells #[.slice A1 p.vars.length c1, .slice A2 p.procs.length c2, .int .u8 p.main.kind, .int .i64 p.main.num, .string p.main.name, .slice A3 p.main.kids.length c3] 30)).alloc (.cells #[.int .u8 k, .int .i64 n, .string s, .slice A c.length cap] 28)).heap.size by omega)
    have hM01 : Mv F ((w.alloc (.cells #[.slice A1 p.vars.length c1, .slice A2 p.procs.length c2, .int .u8 p.main.kind, .int .i64 p.main.num, .string p.main.name, .slice A3 p.main.kids.length c3] 30)).alloc (.cells #[.int .u8 k, .int .i64 n, .string s, .slice A c.length cap] 28)) v w2 v2 := ((Mv.of_below (Below.refl _ _).drew).trans (.of_below hb1)).trans hM2
    have hM := hM1.trans hM2
    have hB2 : Ibox F [(w.heap.size, Obj.cells #[.slice A1 p.vars.length c1, .slice A2 p.procs.length c2, .int .u8 p.main.kind, .int .i64 p.main.num, .string p.main.name, .slice A3 p.main.kids.length c3] 30 (0, 0)), (w.heap.size + 1, Obj.cells #[.int .u8 k, .int .i64 n, .string s, .slice A c.length cap] 28 (0, 0))] w2 v2 := Ibox.mv (w := ((w.alloc (.cells #[.slice A1 p.vars.length c1, .slice A2 p.procs.length c2, .int .u8 p.main.kind, .int .i64 p.main.num, .string p.main.name, .slice A3 p.main.kids.length c3] 30)).alloc (.cells #[.int .u8 k, .int .i64 n, .string s, .slice A c.length cap] 28))) (v := v) (fun x hx => by simp only [List.mem_cons, List.not_mem_nil, or_false] at hx; rcases hx with rfl | rfl; exact ⟨HBP.out, by have := HLTF.out; simp; omega, fun e => by have := (HLTV.out _ e).2; simp at this⟩; exact ⟨HBN.out, by have := HLTF.out; simp; omega, fun e => by have := (HLTV.out _ e).2; simp at this; omega⟩) hM01
    have HR2 := Lib.hid hR2
    have HM2 := Lib.hid hM
    have HB2 := Lib.hid hB2
    have bn := (hB2 (w.heap.size + 1, Obj.cells #[.int .u8 k, .int .i64 n, .string s, .slice A c.length cap] 28 (0, 0)) (by simp)).1
    clear hR1 hM1 hR2 hM hb1 hb1' hM2 hM01 hB2 hq hei fp0 fp1 fp2 fp3 fp4 fp5 fn0 fn1 fn2 fn3
    obtain ⟨fn0, fn1, fn2, fn3⟩ := four_at' bn
    clear bn
    have hve := visF_eq p pr (Tr.mk k n s c) path vs
    cases h50 : (k == 50)
    case true =>
      have hk5 : k = 50 ∨ k = 51 := .inl (by simpa using h50)
      rw [if_pos (show (Tr.kind (Tr.mk k n s c) = 50 ∨ Tr.kind (Tr.mk k n s c) = 51) from hk5)] at hve
      simp only [Tr.name, Tr.kids] at hve
      have HVE := Lib.hid hve
      clear hve
      go_wp2_with fail
      go_loopw [34] (fun s34 wr => ∃ (i : Nat) (v3 : Value) (L3 : List Ft), i ≤ c.length ∧ s34 = .int .i64 i ∧ Rs ok0 B0 F wr v3 L3 ∧ Mv F w v wr v3 ∧ L3 ++ argsF p pr (Tr.mk k n s c) path vs (c.drop i) i = L ++ visF p pr (Tr.mk k n s c) path vs ∧ Ibox F [(w.heap.size, Obj.cells #[.slice A1 p.vars.length c1, .slice A2 p.procs.length c2, .int .u8 p.main.kind, .int .i64 p.main.num, .string p.main.name, .slice A3 p.main.kids.length c3] 30 (0, 0)), (w.heap.size + 1, Obj.cells #[.int .u8 k, .int .i64 n, .string s, .slice A c.length cap] 28 (0, 0))] wr v3 ∧ L3.length + Tr.sizes (c.drop i) ≤ 1000000)
        (fun s34 _ => c.length - (intOf s34).toNat)
      case atStart => exact ⟨0, v2, _, Nat.zero_le _, rfl, HR2.out, HM2.out, by rw [HVE.out, List.append_assoc]; rfl, HB2.out, by have := rep_len pr path (faultE p (Tr.mk k n s c) vs) s; rw [List.length_append, List.drop_zero]; omega⟩
      case round =>
        obtain ⟨i, v3, L3, hi, rfl, hR3, hM3, hL3, hB3, hLs⟩ := hrel
        by_cases hlt : i < c.length
        · have hn3 := HR.out.val hM3 HN.out
          obtain ⟨b, off, A5, cap5, rfl, h0, h1, h2, h3, hkv, hks⟩ := kid_val hn3 i hlt
          have hii : inr .i64 (i : Int) := by constructor <;> simp [IntKind.min, IntKind.max, IntKind.bits, IntKind.signed] <;> omega
          have hszk := sizes_drop c i hlt
          have hszd : Tr.sizes (c.drop (i + 1)) ≤ Tr.sizes c := by have := sizes_drop_le c (i + 1); exact this
          have hszi : Tr.size c[i] + Tr.sizes (c.drop (i + 1)) ≤ Tr.sizes c := by have := sizes_drop_le c i; omega
          have hlen3 : L3.length ≤ L.length + (Tr.sizes c + 1) := by have h9 := congrArg List.length hL3; rw [List.length_append, List.length_append] at h9; have := visF_len p pr (Tr.mk k n s c) path vs; simp only [Tr.size] at this; omega
          have hP5 := hB3 (w.heap.size, Obj.cells #[.slice A1 p.vars.length c1, .slice A2 p.procs.length c2, .int .u8 p.main.kind, .int .i64 p.main.num, .string p.main.name, .slice A3 p.main.kids.length c3] 30 (0, 0)) (by simp)
          have hN5 := hB3 (w.heap.size + 1, Obj.cells #[.int .u8 k, .int .i64 n, .string s, .slice (some ⟨b, off, none⟩) c.length cap] 28 (0, 0)) (by simp)
          have hbe := heap_alloc_new wr (.cells #[.int .u8 c[i].kind, .int .i64 c[i].num, .string c[i].name, .slice A5 c[i].kids.length cap5] 28)
          have hbp5 : (wr.alloc (.cells #[.int .u8 c[i].kind, .int .i64 c[i].num, .string c[i].name, .slice A5 c[i].kids.length cap5] 28)).heap[w.heap.size]? = some (.cells #[.slice A1 p.vars.length c1, .slice A2 p.procs.length c2, .int .u8 p.main.kind, .int .i64 p.main.num, .string p.main.name, .slice A3 p.main.kids.length c3] 30 (0, 0)) := (Below.heap_alloc wr _ _ (Array.getElem?_eq_some_iff.1 hP5.1).1).trans hP5.1
          have hbn5 : (wr.alloc (.cells #[.int .u8 c[i].kind, .int .i64 c[i].num, .string c[i].name, .slice A5 c[i].kids.length cap5] 28)).heap[w.heap.size + 1]? = some (.cells #[.int .u8 k, .int .i64 n, .string s, .slice (some ⟨b, off, none⟩) c.length cap] 28 (0, 0)) := (Below.heap_alloc wr _ _ (Array.getElem?_eq_some_iff.1 hN5.1).1).trans hN5.1
          have HR3 := Lib.hid hR3
          have HM3 := Lib.hid hM3
          have HB3 := Lib.hid hB3
          have HN3 := Lib.hid hn3
          have HK3 := Lib.hid hkv
          have HP3 := Lib.hid (HR.out.val hM3 HP.out)
          have HV3 := Lib.hid (HR.out.val hM3 HV.out)
          have HI3 := Lib.hid (HRF.out.keep _ _ _ _ HI.out hM3)
          have HR5 := Lib.hid (hR3.below ((Below.refl _ wr).alloc (Nat.le_refl _) (.cells #[.int .u8 c[i].kind, .int .i64 c[i].num, .string c[i].name, .slice A5 c[i].kids.length cap5] 28)))
          have HQ5 := Lib.hid (hR3.val (.of_below ((Below.refl _ wr).alloc (Nat.le_refl _) (.cells #[.int .u8 c[i].kind, .int .i64 c[i].num, .string c[i].name, .slice A5 c[i].kids.length cap5] 28))) (HR.out.val hM3 HQ.out))
          obtain ⟨fp0, fp1, fp2, fp3, fp4, fp5⟩ := six_at hbp5
          obtain ⟨fn0, fn1, fn2, fn3⟩ := four_at' hbn5
          obtain ⟨fe0, fe1, fe2, fe3⟩ := four_at' hbe
          clear hR3 hM3 hB3 hn3 hkv hP5 hN5 hbe hbp5 hbn5
          go_wp2_with fail
          refine (wpIn_wide (n := 0)).1 (serial [11] hmo ?_)
          simp only [List.size_toArray, List.length_cons, List.length_nil, Nat.reduceAdd]
          refine takeF (v := ?_) hfn (by kernel_rfl) (i := 0) rfl (by kernel_rfl) (wanted_none rfl) (fun w' => ?_) ?_
          rotate_left
          · simp [execOp, go_sem]; exact rfl
          simp only [Act.put, List.setIfInBounds_toArray, List.set_cons_succ, List.set_cons_zero]
          refine takeF (v := ?_) hfn (by kernel_rfl) (i := 1) rfl (by kernel_rfl) (wanted_none rfl) (fun w' => ?_) ?_
          rotate_left
          · simp [execOp, go_sem]; exact rfl
          simp only [Act.put, List.setIfInBounds_toArray, List.set_cons_succ, List.set_cons_zero]
          refine takeF (v := ?_) hfn (by kernel_rfl) (i := 2) rfl (by kernel_rfl) (wanted_none rfl) (fun w' => ?_) ?_
          rotate_left
          · simp [execOp, go_sem]; exact rfl
          simp only [Act.put, List.setIfInBounds_toArray, List.set_cons_succ, List.set_cons_zero]
          refine takeF (v := ?_) hfn (by kernel_rfl) (i := 4) rfl (by kernel_rfl) (wanted_none rfl) (fun w' => ?_) ?_
          rotate_left
          · simp [execOp, go_sem]; exact rfl
          simp only [Act.put, List.setIfInBounds_toArray, List.set_cons_succ, List.set_cons_zero]
          refine takeL (via := []) (v := ?_) hfn (by kernel_rfl) (i := 5) rfl (by kernel_rfl) (wanted_none rfl) (fun w' hbk => ?_) ?_
          rotate_left
          · simp [execOp, go_sem, keepc hbk fe2]; exact rfl
          simp only [Act.put, List.setIfInBounds_toArray, List.set_cons_succ, List.set_cons_zero]
          refine takeL (via := [[11, 10]]) (v := ?_) hfn (by kernel_rfl) (i := 6) rfl (by kernel_rfl) (wanted_none rfl) (fun w' hbk => ?_) ?_
          rotate_left
          · simp [execOp, go_sem, keepc hbk fp0, keepc hbk fp1, keepc hbk fp2, keepc hbk fp3, keepc hbk fp4, keepc hbk fp5]; exact rfl
          simp only [Act.put, List.setIfInBounds_toArray, List.set_cons_succ, List.set_cons_zero]
          refine takeL (via := [[11, 10]]) (v := ?_) hfn (by kernel_rfl) (i := 7) rfl (by kernel_rfl) (wanted_none rfl) (fun w' hbk => ?_) ?_
          rotate_left
          · simp [execOp, go_sem, keepc hbk fn0, keepc hbk fn1, keepc hbk fn2, keepc hbk fn3]; exact rfl
          simp only [Act.put, List.setIfInBounds_toArray, List.set_cons_succ, List.set_cons_zero]
          refine takeF (v := ?_) hfn (by kernel_rfl) (i := 8) rfl (by kernel_rfl) (wanted_none rfl) (fun w' => ?_) ?_
          rotate_left
          · simp [execOp, go_sem]; exact rfl
          simp only [Act.put, List.setIfInBounds_toArray, List.set_cons_succ, List.set_cons_zero]
          refine takeF (v := ?_) hfn (by kernel_rfl) (i := 9) rfl (by kernel_rfl) (wanted_none rfl) (fun w' => ?_) ?_
          rotate_left
          · simp [execOp, go_sem]; exact rfl
          simp only [Act.put, List.setIfInBounds_toArray, List.set_cons_succ, List.set_cons_zero]
          refine runC (f := ?_) (args := ?_) hfn hdp (by kernel_rfl) (j := 3) rfl (by kernel_rfl) (wanted_none rfl) ?_ ?_
          rotate_left; rotate_left
          · simp [go_sem]; (refine And.intro ?_ ?_ <;> exact rfl)
          refine (callsIn_wide.2 (dcall (child_fn path i (by omega)) HR5.out.drew (vals_two_of (HR5.out.val (Mv.of_below (Below.refl _ _).drew) HQ5.out) (val.of1 ⟨_, .int _ _ hii, rfl⟩)))).mono ?_
          rintro e w6 ⟨vq2, rfl, hb6, hq6⟩
          have hR6 := HR5.out.drew.below hb6
          have hM6 : Mv F wr v3 w6 v3 := (Mv.of_below ((Below.refl _ wr).alloc (Nat.le_refl _) (.cells #[.int .u8 c[i].kind, .int .i64 c[i].num, .string c[i].name, .slice A5 c[i].kids.length cap5] 28))).trans ((Mv.of_below (Below.refl _ _).drew).trans (.of_below hb6))
          refine ⟨_, rfl, fun _ => hb6, ?_⟩
          simp only [Act.put, List.setIfInBounds_toArray, List.set_cons_succ, List.set_cons_zero]
          refine runC (f := ?_) (args := ?_) hfn hdp (by kernel_rfl) (j := 10) rfl (by kernel_rfl) (wanted_none rfl) ?_ ?_
          rotate_left; rotate_left
          · simp [go_sem]; (refine And.intro ?_ ?_ <;> exact rfl)
          refine (callsIn_wide.2 (dcall (arg_fn p (Tr.mk k n s c) i vs hlt (by omega) hp) hR6 (vals_four (HR3.out.val hM6 HP3.out) (HR3.out.val hM6 HN3.out) (val.of1 ⟨_, .int _ _ hii, rfl⟩) (HR3.out.val hM6 HV3.out)))).mono ?_
          rintro e w7 ⟨ve, rfl, hb7, hq7⟩
          obtain ⟨rfl, hei⟩ := val_int hq7
          have hR7 := hR6.below hb7
          have hM7 := hM6.trans (.of_below hb7)
          refine ⟨_, rfl, fun _ => hb7, ?_⟩
          simp only [Act.put, List.setIfInBounds_toArray, List.set_cons_succ, List.set_cons_zero]
          refine runC (f := ?_) (args := ?_) hfn hdp (by kernel_rfl) (j := 11) rfl (by kernel_rfl) (wanted_none rfl) ?_ ?_
          rotate_left; rotate_left
          · simp [execOp, go_sem, hent]; (refine And.intro ?_ ?_ <;> exact rfl)
          refine (callsIn_wide.2 (HRF.out.call w7 v3 L3 (path ++ [(i : Int)]) c[i].name (argE p (Tr.mk k n s c) i vs) vq2 hR7 (HRF.out.keep _ _ _ _ HI3.out hM7) hei hks (hR6.val (.of_below hb7) hq6) (by simp; omega) (by omega))).mono ?_
          rintro e w8 ⟨v8, ⟨u8, rfl⟩, hR8, hM8⟩
          refine ⟨_, rfl, fun e => (by cases e), ?_⟩
          simp only [Act.put, List.setIfInBounds_toArray, List.set_cons_succ, List.set_cons_zero]
          refine doneK (by kernel_rfl) ?_
          have hM8' := hM7.trans hM8
          have HR8 := Lib.hid hR8
          have HM8 := Lib.hid (HM3.out.trans hM8')
          have HB8 := Lib.hid (HB3.out.mv hM8')
          clear hR6 hM6 hR7 hM7 hR8 hM8 hM8' hb6 hb7 hq6 hq7 fp0 fp1 fp2 fp3 fp4 fp5 fn0 fn1 fn2 fn3 fe0 fe1 fe2 fe3
          go_wp2_with fail
          go_roundw
          case rel => exact ⟨i + 1, v8, _, by omega, by go_num, HR8.out, HM8.out, by rw [← hL3, argsF_drop p pr (Tr.mk k n s c) path vs c i hlt, List.append_assoc], HB8.out, by have := rep_len pr (path ++ [(i : Int)]) (argE p (Tr.mk k n s c) i vs) c[i].name; have := size_ge1 c[i]; rw [List.length_append]; omega⟩
          case measure => simp [intOf]; omega
        · obtain rfl : i = c.length := by omega
          rw [List.drop_of_length_le (Nat.le_refl _)] at hL3
          simp only [argsF, List.append_nil] at hL3
          subst hL3
          have HR9 := Lib.hid hR3
          have HM9 := Lib.hid hM3
          clear hR3 hM3 hB3
          go_wp2_with fail
          refine bodyPost_ret (results_none rfl _ _ _) rfl ?_
          exact ⟨_, ⟨_, rfl⟩, HR9.out, HM9.out⟩
    case false =>
      cases h51 : (k == 51)
      case true =>
        have hk5 : k = 50 ∨ k = 51 := .inr (by simpa using h51)
        rw [if_pos (show (Tr.kind (Tr.mk k n s c) = 50 ∨ Tr.kind (Tr.mk k n s c) = 51) from hk5)] at hve
        simp only [Tr.name, Tr.kids] at hve
        have HVE := Lib.hid hve
        clear hve
        go_wp2_with fail
        go_loopw [34] (fun s34 wr => ∃ (i : Nat) (v3 : Value) (L3 : List Ft), i ≤ c.length ∧ s34 = .int .i64 i ∧ Rs ok0 B0 F wr v3 L3 ∧ Mv F w v wr v3 ∧ L3 ++ argsF p pr (Tr.mk k n s c) path vs (c.drop i) i = L ++ visF p pr (Tr.mk k n s c) path vs ∧ Ibox F [(w.heap.size, Obj.cells #[.slice A1 p.vars.length c1, .slice A2 p.procs.length c2, .int .u8 p.main.kind, .int .i64 p.main.num, .string p.main.name, .slice A3 p.main.kids.length c3] 30 (0, 0)), (w.heap.size + 1, Obj.cells #[.int .u8 k, .int .i64 n, .string s, .slice A c.length cap] 28 (0, 0))] wr v3 ∧ L3.length + Tr.sizes (c.drop i) ≤ 1000000)
          (fun s34 _ => c.length - (intOf s34).toNat)
        case atStart => exact ⟨0, v2, _, Nat.zero_le _, rfl, HR2.out, HM2.out, by rw [HVE.out, List.append_assoc]; rfl, HB2.out, by have := rep_len pr path (faultE p (Tr.mk k n s c) vs) s; rw [List.length_append, List.drop_zero]; omega⟩
        case round =>
          obtain ⟨i, v3, L3, hi, rfl, hR3, hM3, hL3, hB3, hLs⟩ := hrel
          by_cases hlt : i < c.length
          · have hn3 := HR.out.val hM3 HN.out
            obtain ⟨b, off, A5, cap5, rfl, h0, h1, h2, h3, hkv, hks⟩ := kid_val hn3 i hlt
            have hii : inr .i64 (i : Int) := by constructor <;> simp [IntKind.min, IntKind.max, IntKind.bits, IntKind.signed] <;> omega
            have hszk := sizes_drop c i hlt
            have hszd : Tr.sizes (c.drop (i + 1)) ≤ Tr.sizes c := by have := sizes_drop_le c (i + 1); exact this
            have hszi : Tr.size c[i] + Tr.sizes (c.drop (i + 1)) ≤ Tr.sizes c := by have := sizes_drop_le c i; omega
            have hlen3 : L3.length ≤ L.length + (Tr.sizes c + 1) := by have h9 := congrArg List.length hL3; rw [List.length_append, List.length_append] at h9; have := visF_len p pr (Tr.mk k n s c) path vs; simp only [Tr.size] at this; omega
            have hP5 := hB3 (w.heap.size, Obj.cells #[.slice A1 p.vars.length c1, .slice A2 p.procs.length c2, .int .u8 p.main.kind, .int .i64 p.main.num, .string p.main.name, .slice A3 p.main.kids.length c3] 30 (0, 0)) (by simp)
            have hN5 := hB3 (w.heap.size + 1, Obj.cells #[.int .u8 k, .int .i64 n, .string s, .slice (some ⟨b, off, none⟩) c.length cap] 28 (0, 0)) (by simp)
            have hbe := heap_alloc_new wr (.cells #[.int .u8 c[i].kind, .int .i64 c[i].num, .string c[i].name, .slice A5 c[i].kids.length cap5] 28)
            have hbp5 : (wr.alloc (.cells #[.int .u8 c[i].kind, .int .i64 c[i].num, .string c[i].name, .slice A5 c[i].kids.length cap5] 28)).heap[w.heap.size]? = some (.cells #[.slice A1 p.vars.length c1, .slice A2 p.procs.length c2, .int .u8 p.main.kind, .int .i64 p.main.num, .string p.main.name, .slice A3 p.main.kids.length c3] 30 (0, 0)) := (Below.heap_alloc wr _ _ (Array.getElem?_eq_some_iff.1 hP5.1).1).trans hP5.1
            have hbn5 : (wr.alloc (.cells #[.int .u8 c[i].kind, .int .i64 c[i].num, .string c[i].name, .slice A5 c[i].kids.length cap5] 28)).heap[w.heap.size + 1]? = some (.cells #[.int .u8 k, .int .i64 n, .string s, .slice (some ⟨b, off, none⟩) c.length cap] 28 (0, 0)) := (Below.heap_alloc wr _ _ (Array.getElem?_eq_some_iff.1 hN5.1).1).trans hN5.1
            have HR3 := Lib.hid hR3
            have HM3 := Lib.hid hM3
            have HB3 := Lib.hid hB3
            have HN3 := Lib.hid hn3
            have HK3 := Lib.hid hkv
            have HP3 := Lib.hid (HR.out.val hM3 HP.out)
            have HV3 := Lib.hid (HR.out.val hM3 HV.out)
            have HI3 := Lib.hid (HRF.out.keep _ _ _ _ HI.out hM3)
            have HR5 := Lib.hid (hR3.below ((Below.refl _ wr).alloc (Nat.le_refl _) (.cells #[.int .u8 c[i].kind, .int .i64 c[i].num, .string c[i].name, .slice A5 c[i].kids.length cap5] 28)))
            have HQ5 := Lib.hid (hR3.val (.of_below ((Below.refl _ wr).alloc (Nat.le_refl _) (.cells #[.int .u8 c[i].kind, .int .i64 c[i].num, .string c[i].name, .slice A5 c[i].kids.length cap5] 28))) (HR.out.val hM3 HQ.out))
            obtain ⟨fp0, fp1, fp2, fp3, fp4, fp5⟩ := six_at hbp5
            obtain ⟨fn0, fn1, fn2, fn3⟩ := four_at' hbn5
            obtain ⟨fe0, fe1, fe2, fe3⟩ := four_at' hbe
            clear hR3 hM3 hB3 hn3 hkv hP5 hN5 hbe hbp5 hbn5
            go_wp2_with fail
            refine (wpIn_wide (n := 0)).1 (serial [11] hmo ?_)
            simp only [List.size_toArray, List.length_cons, List.length_nil, Nat.reduceAdd]
            refine takeF (v := ?_) hfn (by kernel_rfl) (i := 0) rfl (by kernel_rfl) (wanted_none rfl) (fun w' => ?_) ?_
            rotate_left
            · simp [execOp, go_sem]; exact rfl
            simp only [Act.put, List.setIfInBounds_toArray, List.set_cons_succ, List.set_cons_zero]
            refine takeF (v := ?_) hfn (by kernel_rfl) (i := 1) rfl (by kernel_rfl) (wanted_none rfl) (fun w' => ?_) ?_
            rotate_left
            · simp [execOp, go_sem]; exact rfl
            simp only [Act.put, List.setIfInBounds_toArray, List.set_cons_succ, List.set_cons_zero]
            refine takeF (v := ?_) hfn (by kernel_rfl) (i := 2) rfl (by kernel_rfl) (wanted_none rfl) (fun w' => ?_) ?_
            rotate_left
            · simp [execOp, go_sem]; exact rfl
            simp only [Act.put, List.setIfInBounds_toArray, List.set_cons_succ, List.set_cons_zero]
            refine takeF (v := ?_) hfn (by kernel_rfl) (i := 4) rfl (by kernel_rfl) (wanted_none rfl) (fun w' => ?_) ?_
            rotate_left
            · simp [execOp, go_sem]; exact rfl
            simp only [Act.put, List.setIfInBounds_toArray, List.set_cons_succ, List.set_cons_zero]
            refine takeL (via := []) (v := ?_) hfn (by kernel_rfl) (i := 5) rfl (by kernel_rfl) (wanted_none rfl) (fun w' hbk => ?_) ?_
            rotate_left
            · simp [execOp, go_sem, keepc hbk fe2]; exact rfl
            simp only [Act.put, List.setIfInBounds_toArray, List.set_cons_succ, List.set_cons_zero]
            refine takeL (via := [[11, 10]]) (v := ?_) hfn (by kernel_rfl) (i := 6) rfl (by kernel_rfl) (wanted_none rfl) (fun w' hbk => ?_) ?_
            rotate_left
            · simp [execOp, go_sem, keepc hbk fp0, keepc hbk fp1, keepc hbk fp2, keepc hbk fp3, keepc hbk fp4, keepc hbk fp5]; exact rfl
            simp only [Act.put, List.setIfInBounds_toArray, List.set_cons_succ, List.set_cons_zero]
            refine takeL (via := [[11, 10]]) (v := ?_) hfn (by kernel_rfl) (i := 7) rfl (by kernel_rfl) (wanted_none rfl) (fun w' hbk => ?_) ?_
            rotate_left
            · simp [execOp, go_sem, keepc hbk fn0, keepc hbk fn1, keepc hbk fn2, keepc hbk fn3]; exact rfl
            simp only [Act.put, List.setIfInBounds_toArray, List.set_cons_succ, List.set_cons_zero]
            refine takeF (v := ?_) hfn (by kernel_rfl) (i := 8) rfl (by kernel_rfl) (wanted_none rfl) (fun w' => ?_) ?_
            rotate_left
            · simp [execOp, go_sem]; exact rfl
            simp only [Act.put, List.setIfInBounds_toArray, List.set_cons_succ, List.set_cons_zero]
            refine takeF (v := ?_) hfn (by kernel_rfl) (i := 9) rfl (by kernel_rfl) (wanted_none rfl) (fun w' => ?_) ?_
            rotate_left
            · simp [execOp, go_sem]; exact rfl
            simp only [Act.put, List.setIfInBounds_toArray, List.set_cons_succ, List.set_cons_zero]
            refine runC (f := ?_) (args := ?_) hfn hdp (by kernel_rfl) (j := 3) rfl (by kernel_rfl) (wanted_none rfl) ?_ ?_
            rotate_left; rotate_left
            · simp [go_sem]; (refine And.intro ?_ ?_ <;> exact rfl)
            refine (callsIn_wide.2 (dcall (child_fn path i (by omega)) HR5.out.drew (vals_two_of (HR5.out.val (Mv.of_below (Below.refl _ _).drew) HQ5.out) (val.of1 ⟨_, .int _ _ hii, rfl⟩)))).mono ?_
            rintro e w6 ⟨vq2, rfl, hb6, hq6⟩
            have hR6 := HR5.out.drew.below hb6
            have hM6 : Mv F wr v3 w6 v3 := (Mv.of_below ((Below.refl _ wr).alloc (Nat.le_refl _) (.cells #[.int .u8 c[i].kind, .int .i64 c[i].num, .string c[i].name, .slice A5 c[i].kids.length cap5] 28))).trans ((Mv.of_below (Below.refl _ _).drew).trans (.of_below hb6))
            refine ⟨_, rfl, fun _ => hb6, ?_⟩
            simp only [Act.put, List.setIfInBounds_toArray, List.set_cons_succ, List.set_cons_zero]
            refine runC (f := ?_) (args := ?_) hfn hdp (by kernel_rfl) (j := 10) rfl (by kernel_rfl) (wanted_none rfl) ?_ ?_
            rotate_left; rotate_left
            · simp [go_sem]; (refine And.intro ?_ ?_ <;> exact rfl)
            refine (callsIn_wide.2 (dcall (arg_fn p (Tr.mk k n s c) i vs hlt (by omega) hp) hR6 (vals_four (HR3.out.val hM6 HP3.out) (HR3.out.val hM6 HN3.out) (val.of1 ⟨_, .int _ _ hii, rfl⟩) (HR3.out.val hM6 HV3.out)))).mono ?_
            rintro e w7 ⟨ve, rfl, hb7, hq7⟩
            obtain ⟨rfl, hei⟩ := val_int hq7
            have hR7 := hR6.below hb7
            have hM7 := hM6.trans (.of_below hb7)
            refine ⟨_, rfl, fun _ => hb7, ?_⟩
            simp only [Act.put, List.setIfInBounds_toArray, List.set_cons_succ, List.set_cons_zero]
            refine runC (f := ?_) (args := ?_) hfn hdp (by kernel_rfl) (j := 11) rfl (by kernel_rfl) (wanted_none rfl) ?_ ?_
            rotate_left; rotate_left
            · simp [execOp, go_sem, hent]; (refine And.intro ?_ ?_ <;> exact rfl)
            refine (callsIn_wide.2 (HRF.out.call w7 v3 L3 (path ++ [(i : Int)]) c[i].name (argE p (Tr.mk k n s c) i vs) vq2 hR7 (HRF.out.keep _ _ _ _ HI3.out hM7) hei hks (hR6.val (.of_below hb7) hq6) (by simp; omega) (by omega))).mono ?_
            rintro e w8 ⟨v8, ⟨u8, rfl⟩, hR8, hM8⟩
            refine ⟨_, rfl, fun e => (by cases e), ?_⟩
            simp only [Act.put, List.setIfInBounds_toArray, List.set_cons_succ, List.set_cons_zero]
            refine doneK (by kernel_rfl) ?_
            have hM8' := hM7.trans hM8
            have HR8 := Lib.hid hR8
            have HM8 := Lib.hid (HM3.out.trans hM8')
            have HB8 := Lib.hid (HB3.out.mv hM8')
            clear hR6 hM6 hR7 hM7 hR8 hM8 hM8' hb6 hb7 hq6 hq7 fp0 fp1 fp2 fp3 fp4 fp5 fn0 fn1 fn2 fn3 fe0 fe1 fe2 fe3
            go_wp2_with fail
            go_roundw
            case rel => exact ⟨i + 1, v8, _, by omega, by go_num, HR8.out, HM8.out, by rw [← hL3, argsF_drop p pr (Tr.mk k n s c) path vs c i hlt, List.append_assoc], HB8.out, by have := rep_len pr (path ++ [(i : Int)]) (argE p (Tr.mk k n s c) i vs) c[i].name; have := size_ge1 c[i]; rw [List.length_append]; omega⟩
            case measure => simp [intOf]; omega
          · obtain rfl : i = c.length := by omega
            rw [List.drop_of_length_le (Nat.le_refl _)] at hL3
            simp only [argsF, List.append_nil] at hL3
            subst hL3
            have HR9 := Lib.hid hR3
            have HM9 := Lib.hid hM3
            clear hR3 hM3 hB3
            go_wp2_with fail
            refine bodyPost_ret (results_none rfl _ _ _) rfl ?_
            exact ⟨_, ⟨_, rfl⟩, HR9.out, HM9.out⟩
      case false =>
        have hk5 : ¬ (k = 50 ∨ k = 51) := by simp at h50 h51; omega
        rw [if_neg (show ¬ (Tr.kind (Tr.mk k n s c) = 50 ∨ Tr.kind (Tr.mk k n s c) = 51) from hk5)] at hve
        simp only [Tr.name, Tr.kids] at hve
        have HVE := Lib.hid hve
        clear hve
        go_wp2_with fail
        go_loopw [55] (fun s55 wr => ∃ (i : Nat) (v3 : Value) (L3 : List Ft), i ≤ c.length ∧ s55 = .int .i64 i ∧ Rs ok0 B0 F wr v3 L3 ∧ Mv F w v wr v3 ∧ L3 ++ visL p pr (Tr.mk k n s c) path vs (c.drop i) i = L ++ visF p pr (Tr.mk k n s c) path vs ∧ Ibox F [(w.heap.size, Obj.cells #[.slice A1 p.vars.length c1, .slice A2 p.procs.length c2, .int .u8 p.main.kind, .int .i64 p.main.num, .string p.main.name, .slice A3 p.main.kids.length c3] 30 (0, 0)), (w.heap.size + 1, Obj.cells #[.int .u8 k, .int .i64 n, .string s, .slice A c.length cap] 28 (0, 0))] wr v3 ∧ L3.length + Tr.sizes (c.drop i) ≤ 1000000)
          (fun s55 _ => c.length - (intOf s55).toNat)
        case atStart => exact ⟨0, v2, _, Nat.zero_le _, rfl, HR2.out, HM2.out, by rw [HVE.out, List.append_assoc]; rfl, HB2.out, by have := rep_len pr path (faultE p (Tr.mk k n s c) vs) s; rw [List.length_append, List.drop_zero]; omega⟩
        case round =>
          obtain ⟨i, v3, L3, hi, rfl, hR3, hM3, hL3, hB3, hLs⟩ := hrel
          by_cases hlt : i < c.length
          · have hn3 := HR.out.val hM3 HN.out
            obtain ⟨b, off, A5, cap5, rfl, h0, h1, h2, h3, hkv, hks⟩ := kid_val hn3 i hlt
            have hii : inr .i64 (i : Int) := by constructor <;> simp [IntKind.min, IntKind.max, IntKind.bits, IntKind.signed] <;> omega
            have hszk := sizes_drop c i hlt
            have hszd : Tr.sizes (c.drop (i + 1)) ≤ Tr.sizes c := by have := sizes_drop_le c (i + 1); exact this
            have hszi : Tr.size c[i] + Tr.sizes (c.drop (i + 1)) ≤ Tr.sizes c := by have := sizes_drop_le c i; omega
            have hlen3 : L3.length ≤ L.length + (Tr.sizes c + 1) := by have h9 := congrArg List.length hL3; rw [List.length_append, List.length_append] at h9; have := visF_len p pr (Tr.mk k n s c) path vs; simp only [Tr.size] at this; omega
            have hP5 := hB3 (w.heap.size, Obj.cells #[.slice A1 p.vars.length c1, .slice A2 p.procs.length c2, .int .u8 p.main.kind, .int .i64 p.main.num, .string p.main.name, .slice A3 p.main.kids.length c3] 30 (0, 0)) (by simp)
            have hN5 := hB3 (w.heap.size + 1, Obj.cells #[.int .u8 k, .int .i64 n, .string s, .slice (some ⟨b, off, none⟩) c.length cap] 28 (0, 0)) (by simp)
            have hbe := heap_alloc_new wr (.cells #[.int .u8 c[i].kind, .int .i64 c[i].num, .string c[i].name, .slice A5 c[i].kids.length cap5] 28)
            have hbp5 : (wr.alloc (.cells #[.int .u8 c[i].kind, .int .i64 c[i].num, .string c[i].name, .slice A5 c[i].kids.length cap5] 28)).heap[w.heap.size]? = some (.cells #[.slice A1 p.vars.length c1, .slice A2 p.procs.length c2, .int .u8 p.main.kind, .int .i64 p.main.num, .string p.main.name, .slice A3 p.main.kids.length c3] 30 (0, 0)) := (Below.heap_alloc wr _ _ (Array.getElem?_eq_some_iff.1 hP5.1).1).trans hP5.1
            have hbn5 : (wr.alloc (.cells #[.int .u8 c[i].kind, .int .i64 c[i].num, .string c[i].name, .slice A5 c[i].kids.length cap5] 28)).heap[w.heap.size + 1]? = some (.cells #[.int .u8 k, .int .i64 n, .string s, .slice (some ⟨b, off, none⟩) c.length cap] 28 (0, 0)) := (Below.heap_alloc wr _ _ (Array.getElem?_eq_some_iff.1 hN5.1).1).trans hN5.1
            have HR3 := Lib.hid hR3
            have HM3 := Lib.hid hM3
            have HB3 := Lib.hid hB3
            have HN3 := Lib.hid hn3
            have HK3 := Lib.hid hkv
            have HP3 := Lib.hid (HR.out.val hM3 HP.out)
            have HV3 := Lib.hid (HR.out.val hM3 HV.out)
            have HI3 := Lib.hid (HRF.out.keep _ _ _ _ HI.out hM3)
            have HR5 := Lib.hid (hR3.below ((Below.refl _ wr).alloc (Nat.le_refl _) (.cells #[.int .u8 c[i].kind, .int .i64 c[i].num, .string c[i].name, .slice A5 c[i].kids.length cap5] 28)))
            have HQ5 := Lib.hid (hR3.val (.of_below ((Below.refl _ wr).alloc (Nat.le_refl _) (.cells #[.int .u8 c[i].kind, .int .i64 c[i].num, .string c[i].name, .slice A5 c[i].kids.length cap5] 28))) (HR.out.val hM3 HQ.out))
            obtain ⟨fp0, fp1, fp2, fp3, fp4, fp5⟩ := six_at hbp5
            obtain ⟨fn0, fn1, fn2, fn3⟩ := four_at' hbn5
            obtain ⟨fe0, fe1, fe2, fe3⟩ := four_at' hbe
            clear hR3 hM3 hB3 hn3 hkv hP5 hN5 hbe hbp5 hbn5
            go_wp2_with fail
            refine (wpIn_wide (n := 0)).1 (serial [10] hmo ?_)
            simp only [List.size_toArray, List.length_cons, List.length_nil, Nat.reduceAdd]
            refine takeL (via := []) (v := ?_) hfn (by kernel_rfl) (i := 0) rfl (by kernel_rfl) (wanted_none rfl) (fun w' hbk => ?_) ?_
            rotate_left
            · simp [execOp, go_sem, keepc hbk fp0, keepc hbk fp1, keepc hbk fp2, keepc hbk fp3, keepc hbk fp4, keepc hbk fp5]; exact rfl
            simp only [Act.put, List.setIfInBounds_toArray, List.set_cons_succ, List.set_cons_zero]
            refine takeL (via := []) (v := ?_) hfn (by kernel_rfl) (i := 1) rfl (by kernel_rfl) (wanted_none rfl) (fun w' hbk => ?_) ?_
            rotate_left
            · simp [execOp, go_sem, keepc hbk fe0, keepc hbk fe1, keepc hbk fe2, keepc hbk fe3]; exact rfl
            simp only [Act.put, List.setIfInBounds_toArray, List.set_cons_succ, List.set_cons_zero]
            refine takeF (v := ?_) hfn (by kernel_rfl) (i := 2) rfl (by kernel_rfl) (wanted_none rfl) (fun w' => ?_) ?_
            rotate_left
            · simp [execOp, go_sem]; exact rfl
            simp only [Act.put, List.setIfInBounds_toArray, List.set_cons_succ, List.set_cons_zero]
            refine takeF (v := ?_) hfn (by kernel_rfl) (i := 3) rfl (by kernel_rfl) (wanted_none rfl) (fun w' => ?_) ?_
            rotate_left
            · simp [execOp, go_sem]; exact rfl
            simp only [Act.put, List.setIfInBounds_toArray, List.set_cons_succ, List.set_cons_zero]
            refine takeL (via := [[10, 8]]) (v := ?_) hfn (by kernel_rfl) (i := 5) rfl (by kernel_rfl) (wanted_none rfl) (fun w' hbk => ?_) ?_
            rotate_left
            · simp [execOp, go_sem, keepc hbk fn0, keepc hbk fn1, keepc hbk fn2, keepc hbk fn3]; exact rfl
            simp only [Act.put, List.setIfInBounds_toArray, List.set_cons_succ, List.set_cons_zero]
            refine takeF (v := ?_) hfn (by kernel_rfl) (i := 6) rfl (by kernel_rfl) (wanted_none rfl) (fun w' => ?_) ?_
            rotate_left
            · simp [execOp, go_sem]; exact rfl
            simp only [Act.put, List.setIfInBounds_toArray, List.set_cons_succ, List.set_cons_zero]
            refine takeF (v := ?_) hfn (by kernel_rfl) (i := 7) rfl (by kernel_rfl) (wanted_none rfl) (fun w' => ?_) ?_
            rotate_left
            · simp [execOp, go_sem]; exact rfl
            simp only [Act.put, List.setIfInBounds_toArray, List.set_cons_succ, List.set_cons_zero]
            refine takeF (v := ?_) hfn (by kernel_rfl) (i := 9) rfl (by kernel_rfl) (wanted_none rfl) (fun w' => ?_) ?_
            rotate_left
            · simp [execOp, go_sem]; exact rfl
            simp only [Act.put, List.setIfInBounds_toArray, List.set_cons_succ, List.set_cons_zero]
            refine runC (f := ?_) (args := ?_) hfn hdp (by kernel_rfl) (j := 4) rfl (by kernel_rfl) (wanted_none rfl) ?_ ?_
            rotate_left; rotate_left
            · simp [go_sem]; (refine And.intro ?_ ?_ <;> exact rfl)
            refine (callsIn_wide.2 (dcall (child_fn path i (by omega)) HR5.out.drew (vals_two_of (HR5.out.val (Mv.of_below (Below.refl _ _).drew) HQ5.out) (val.of1 ⟨_, .int _ _ hii, rfl⟩)))).mono ?_
            rintro e w6 ⟨vq2, rfl, hb6, hq6⟩
            have hR6 := HR5.out.drew.below hb6
            have hM6 : Mv F wr v3 w6 v3 := (Mv.of_below ((Below.refl _ wr).alloc (Nat.le_refl _) (.cells #[.int .u8 c[i].kind, .int .i64 c[i].num, .string c[i].name, .slice A5 c[i].kids.length cap5] 28))).trans ((Mv.of_below (Below.refl _ _).drew).trans (.of_below hb6))
            refine ⟨_, rfl, fun _ => hb6, ?_⟩
            simp only [Act.put, List.setIfInBounds_toArray, List.set_cons_succ, List.set_cons_zero]
            refine runC (f := ?_) (args := ?_) hfn hdp (by kernel_rfl) (j := 8) rfl (by kernel_rfl) (wanted_none rfl) ?_ ?_
            rotate_left; rotate_left
            · simp [go_sem]; (refine And.intro ?_ ?_ <;> exact rfl)
            refine (callsIn_wide.2 (dcall (inner_fn (Tr.mk k n s c) i vs (by omega)) hR6 (vals_three (HR3.out.val hM6 HN3.out) (val.of1 ⟨_, .int _ _ hii, rfl⟩) (HR3.out.val hM6 HV3.out)))).mono ?_
            rintro e w7 ⟨vi2, rfl, hb7, hq7⟩
            have hR7 := hR6.below hb7
            have hM7 := hM6.trans (.of_below hb7)
            have hil := innerV_len (Tr.mk k n s c) i vs
            refine ⟨_, rfl, fun _ => hb7, ?_⟩
            simp only [Act.put, List.setIfInBounds_toArray, List.set_cons_succ, List.set_cons_zero]
            refine runC (f := ?_) (args := ?_) hfn hdp (by kernel_rfl) (j := 10) rfl (by kernel_rfl) (wanted_none rfl) ?_ ?_
            rotate_left; rotate_left
            · simp [go_sem]; (refine And.intro ?_ ?_ <;> exact rfl)
            refine (callsIn_wide.2 (IHH.out c[i] (by omega) w7 v3 L3 (path ++ [(i : Int)]) (innerV (Tr.mk k n s c) i vs) _ _ vq2 vi2 hR7 (HRF.out.keep _ _ _ _ HI3.out hM7) (HR3.out.val hM7 HP3.out) (HR3.out.val hM7 HK3.out) (hR6.val (.of_below hb7) hq6) hq7 (by simp; omega) (by omega) (by omega))).mono ?_
            rintro e w8 ⟨v8, ⟨u8, rfl⟩, hR8, hM8⟩
            refine ⟨_, rfl, fun e => (by cases e), ?_⟩
            simp only [Act.put, List.setIfInBounds_toArray, List.set_cons_succ, List.set_cons_zero]
            refine doneK (by kernel_rfl) ?_
            have hM8' := hM7.trans hM8
            have HR8 := Lib.hid hR8
            have HM8 := Lib.hid (HM3.out.trans hM8')
            have HB8 := Lib.hid (HB3.out.mv hM8')
            clear hR6 hM6 hR7 hM7 hR8 hM8 hM8' hb6 hb7 hq6 hq7 fp0 fp1 fp2 fp3 fp4 fp5 fn0 fn1 fn2 fn3 fe0 fe1 fe2 fe3
            go_wp2_with fail
            go_roundw
            case rel => exact ⟨i + 1, v8, _, by omega, by go_num, HR8.out, HM8.out, by rw [← hL3, visL_drop p pr (Tr.mk k n s c) path vs c i hlt, List.append_assoc], HB8.out, by have := visF_len p pr c[i] (path ++ [(i : Int)]) (innerV (Tr.mk k n s c) i vs); have := size_ge1 c[i]; rw [List.length_append]; omega⟩
            case measure => simp [intOf]; omega
          · obtain rfl : i = c.length := by omega
            rw [List.drop_of_length_le (Nat.le_refl _)] at hL3
            simp only [visL, List.append_nil] at hL3
            subst hL3
            have HR9 := Lib.hid hR3
            have HM9 := Lib.hid hM3
            clear hR3 hM3 hB3
            go_wp2_with fail
            refine bodyPost_end (results_none rfl _ _ _) rfl ?_
            exact ⟨_, ⟨_, rfl⟩, HR9.out, HM9.out⟩

end Go.Proofs.Ytjikokmhknnnoaa
