/- scope.Check in memory. -/
import Derived.Test.YtjikokmhknnnoaaVk
namespace Go.Proofs.Ytjikokmhknnnoaa
open Go.RowKit Go.Shelf

theorem prog_parts {w : World} {g : Gh} {p : Pg} {A1 A2 A3 : Option Addr} {c1 c2 c3 : Nat} (h : val w g (dG p) (.agg #[.slice A1 p.vars.length c1, .slice A2 p.procs.length c2, .int .u8 p.main.kind, .int .i64 p.main.num, .string p.main.name, .slice A3 p.main.kids.length c3])) : val w g (sl 3 (p.vars.map dV)) (.slice A1 p.vars.length c1) ∧ val w g (sl 6 (p.procs.map dP)) (.slice A2 p.procs.length c2) ∧ val w g (dN p.main) (.agg #[.int .u8 p.main.kind, .int .i64 p.main.num, .string p.main.name, .slice A3 p.main.kids.length c3]) := by
  unfold dG at h
  obtain ⟨us, hv, hR⟩ := val_agg h
  obtain rfl : us = [.slice A1 p.vars.length c1, .slice A2 p.procs.length c2, .int .u8 p.main.kind, .int .i64 p.main.num, .string p.main.name, .slice A3 p.main.kids.length c3] := by
    have := congrArg (fun x => match x with | Value.agg l => l.toList | _ => []) hv
    simpa using this.symm
  obtain ⟨_, r0⟩ := R_agg_at hR 0 (by simp)
  obtain ⟨_, r1⟩ := R_agg_at hR 1 (by simp)
  refine ⟨val_of_R r0 rfl, val_of_R r1 rfl, ?_⟩
  have hb : R w g (.agg [.int .u8 p.main.kind, .int .i64 p.main.num, .str p.main.name, sl 4 (p.main.kids.map dN)]) [.int .u8 p.main.kind, .int .i64 p.main.num, .string p.main.name, .slice A3 p.main.kids.length c3] := by
    refine R_agg_of rfl (fun j h1 h2 => ?_)
    match j, h1 with
    | 0, _ => exact (R_agg_at hR 2 (by simp)).2
    | 1, _ => exact (R_agg_at hR 3 (by simp)).2
    | 2, _ => exact (R_agg_at hR 4 (by simp)).2
    | 3, _ => exact (R_agg_at hR 5 (by simp)).2
    | j + 4, h1 => simp at h1; omega
  rw [dN_eq]
  exact val_of_agg hb
theorem no_path {w : World} {g : Gh} : val w g (sl 1 (([] : List Int).map dI)) (.slice none 0 0) := val_of_R (.slice .imm 0 [] none 0 (fun _ => []) (Nat.le_refl _) (by omega) (fun s e q => by cases q) trivial trivial (fun j h => absurd h (Nat.not_lt_zero _)) (fun j h => absurd h (Nat.not_lt_zero _)) (fun j h => absurd h (Nat.not_lt_zero _))) rfl
theorem Ibox.sub {F : Nat} {bs bs' : List (Nat × Obj)} {w : World} {v : Value} (h : Ibox F bs w v) (hs : ∀ x ∈ bs', x ∈ bs) : Ibox F bs' w v := fun x hx => h x (hs x hx)
/-- a path of one step in a block of its own -/
theorem one_path {ok0 : Nat → Nat → Prop} {B0 F : Nat} {w : World} {v : Value} {i : Int} {g : Nat} {t : TypeId} (hi : inr .i64 i) (hg : w.heap[g]? = some (.cells #[.int .i64 i] t (0, 0))) (h0 : B0 ≤ g) (hF : g ≠ F) (hv : v.ownBlock ≠ some g) : val w (okGh (Okv ok0 B0 F w v)) (sl 1 ([i].map dI)) (.slice (some ⟨g, 0, none⟩) 1 1) := by
  have hlt := (Array.getElem?_eq_some_iff.1 hg).1
  refine val_of_R (.slice .imm 1 [dI i] (some ⟨g, 0, none⟩) 1 (fun _ => [.int .i64 i]) (Nat.le_refl _) (by omega) (fun s e q => by cases q) trivial trivial (fun j hj => ?_) (fun j hj => rfl) (fun j hj => ⟨g, 0, rfl, fun m u hu => ?_⟩)) rfl
  · obtain rfl : j = 0 := by simp at hj; omega
    exact .int _ _ hi
  · obtain rfl : j = 0 := by simp at hj; omega
    match m, hu with
    | 0, hu =>
      cases hu
      exact ⟨.inr ⟨h0, hlt, hF, hv⟩, cell_of_row _ _ 0 _ _ _ hg⟩
    | m + 1, hu => simp at hu

set_option maxRecDepth 100000 in
set_option maxHeartbeats 1000000 in
theorem check_mem (p : Pg) (hv : validB p = true) {ok0 : Nat → Nat → Prop} {w : World} {vp : Value} (hok : ∀ b o, ok0 b o → b < w.heap.size) (hp : val w (okGh ok0) (dG p) vp) :
    Calls Try.prog 18 #[vp] w fun e w' => ∃ v' B1, e = .returned v' ∧ w.heap.size ≤ B1 ∧ OwnS shFt 51 w' B1 v' (checkF p) ∧ Below w.heap.size w w' := by
  have hmo : Try.prog.follows .mixedOrders = true := by kernel_rfl
  have hfn : ∀ f, Fence.wide.fn f := fun _ => trivial
  have hdp : Fence.wide.depth.isSome = false := rfl
  obtain ⟨hbv, hbn, hbq, hbm, _⟩ := valid_bd hv
  obtain ⟨A1, A2, A3, c1, c2, c3, rfl⟩ := prog_shape hp
  have hbW : Below w.heap.size w (w.alloc (.cells #[.slice A1 p.vars.length c1, .slice A2 p.procs.length c2, .int .u8 p.main.kind, .int .i64 p.main.num, .string p.main.name, .slice A3 p.main.kids.length c3] 30)) := (Below.refl _ w).alloc (Nat.le_refl _) _
  have hpW : val (w.alloc (.cells #[.slice A1 p.vars.length c1, .slice A2 p.procs.length c2, .int .u8 p.main.kind, .int .i64 p.main.num, .string p.main.name, .slice A3 p.main.kids.length c3] 30)) (okGh ok0) (dG p) (.agg #[.slice A1 p.vars.length c1, .slice A2 p.procs.length c2, .int .u8 p.main.kind, .int .i64 p.main.num, .string p.main.name, .slice A3 p.main.kids.length c3]) := val.move (fun _ _ q => q) (fun b o q => hbW.cell (p := ⟨b, o, none⟩) (hok b o q)) hbW.size hp
  have hnew := heap_alloc_new w (.cells #[.slice A1 p.vars.length c1, .slice A2 p.procs.length c2, .int .u8 p.main.kind, .int .i64 p.main.num, .string p.main.name, .slice A3 p.main.kids.length c3] 30)
  have HP := Lib.hid hpW
  have HOK := Lib.hid hok
  have HBW := Lib.hid hbW
  clear hp hbW hpW hok
  go_enter Try.func18, Try.ntmps18
  go_wp2_with fail
  refine (calls_of_fn (valid_fn p) (ok := ok0) (w := (w.alloc (.cells #[.slice A1 p.vars.length c1, .slice A2 p.procs.length c2, .int .u8 p.main.kind, .int .i64 p.main.num, .string p.main.name, .slice A3 p.main.kids.length c3] 30))) (fun b o q => by have := HOK.out b o q; simp; omega) (vals_one_of HP.out)).mono ?_
  rintro e w1 ⟨u, g', rfl, hb1, hd, _⟩
  obtain rfl := val_bool hd
  rw [hv]
  have hsz1 := hb1.size
  simp only [World.size_alloc] at hsz1
  have bx1 := (hb1.block w.heap.size (by simp)).trans hnew
  have hb2 : Below w1.heap.size w1 ((w1.alloc (.cells #[.slice none 0 0] 40)).alloc (.cells #[.func (.func 44) #[] #[.pointer (some ⟨w1.heap.size, 0, none⟩)]] 76)) := ((Below.refl _ w1).alloc (Nat.le_refl _) _).alloc (by simp) _
  have hp1 : val ((w1.alloc (.cells #[.slice none 0 0] 40)).alloc (.cells #[.func (.func 44) #[] #[.pointer (some ⟨w1.heap.size, 0, none⟩)]] 76)) (okGh ok0) (dG p) (.agg #[.slice A1 p.vars.length c1, .slice A2 p.procs.length c2, .int .u8 p.main.kind, .int .i64 p.main.num, .string p.main.name, .slice A3 p.main.kids.length c3]) := val.move (fun _ _ q => q) (fun b o q => (hb2.cell (p := ⟨b, o, none⟩) (show b < w1.heap.size by have := HOK.out b o q; omega)).trans (hb1.cell (p := ⟨b, o, none⟩) (by have := HOK.out b o q; simp; omega))) (Nat.le_trans hb1.size hb2.size) HP.out
  have hR0 : Rs ok0 (w.heap.size) (w1.heap.size) ((w1.alloc (.cells #[.slice none 0 0] 40)).alloc (.cells #[.func (.func 44) #[] #[.pointer (some ⟨w1.heap.size, 0, none⟩)]] 76)) (.slice none 0 0) [] := ⟨heap_alloc2_old w1 _ _, OwnS.nil _ _, HOK.out, by omega⟩
  have hp2 : val ((w1.alloc (.cells #[.slice none 0 0] 40)).alloc (.cells #[.func (.func 44) #[] #[.pointer (some ⟨w1.heap.size, 0, none⟩)]] 76)) (okGh (Okv ok0 (w.heap.size) (w1.heap.size) ((w1.alloc (.cells #[.slice none 0 0] 40)).alloc (.cells #[.func (.func 44) #[] #[.pointer (some ⟨w1.heap.size, 0, none⟩)]] 76)) (.slice none 0 0))) (dG p) (.agg #[.slice A1 p.vars.length c1, .slice A2 p.procs.length c2, .int .u8 p.main.kind, .int .i64 p.main.num, .string p.main.name, .slice A3 p.main.kids.length c3]) := val.move (fun b o q => .inl q) (fun _ _ _ => rfl) (Nat.le_refl _) hp1
  have hB0 : Ibox (w1.heap.size) [(w.heap.size, Obj.cells #[.slice A1 p.vars.length c1, .slice A2 p.procs.length c2, .int .u8 p.main.kind, .int .i64 p.main.num, .string p.main.name, .slice A3 p.main.kids.length c3] 30 (0, 0)), (w1.heap.size + 1, Obj.cells #[.func (.func 44) #[] #[.pointer (some ⟨w1.heap.size, 0, none⟩)]] 76 (0, 0))] ((w1.alloc (.cells #[.slice none 0 0] 40)).alloc (.cells #[.func (.func 44) #[] #[.pointer (some ⟨w1.heap.size, 0, none⟩)]] 76)) (.slice none 0 0) := fun x hx => by
    simp only [List.mem_cons, List.not_mem_nil, or_false] at hx
    rcases hx with rfl | rfl
    · exact ⟨(hb2.block _ (by omega)).trans bx1, by simp; omega, by simp [Value.ownBlock]⟩
    · exact ⟨heap_alloc2_new w1 _ _, by simp, by simp [Value.ownBlock]⟩
  obtain ⟨hp3, hp4, hp5⟩ := prog_parts hp2
  have HR0 := Lib.hid hR0
  have HB0 := Lib.hid hB0
  have HP2 := Lib.hid hp2
  have HVS := Lib.hid hp3
  have HQS := Lib.hid hp4
  have HMN := Lib.hid hp5
  have HBB := Lib.hid (HBW.out.trans ((hb1.trans (hb2.mono hb1.size)).mono (by simp)))
  have bp2 := (hB0 (w.heap.size, _) List.mem_cons_self).1
  obtain ⟨xa0, xa1, xa2, xa3, xa4, xa5⟩ := six_at bx1
  obtain ⟨fp0, fp1, fp2, fp3, fp4, fp5⟩ := six_at bp2
  clear hb1 hb2 hp1 hp2 hp3 hp4 hp5 hR0 hB0 hd bp2 hnew bx1
  go_wp2_with fail
  go_loopw [18] (fun s18 wr => ∃ (i : Nat) (v3 : Value) (L3 : List Ft), i ≤ p.vars.length ∧ s18 = .int .i64 i ∧ Rs ok0 (w.heap.size) (w1.heap.size) wr v3 L3 ∧ Mv (w1.heap.size) ((w1.alloc (.cells #[.slice none 0 0] 40)).alloc (.cells #[.func (.func 44) #[] #[.pointer (some ⟨w1.heap.size, 0, none⟩)]] 76)) (.slice none 0 0) wr v3 ∧ L3 ++ vrF (-1) true p.vars (p.vars.drop i) i = vrF (-1) true p.vars p.vars 0 ∧ Ibox (w1.heap.size) [(w.heap.size, Obj.cells #[.slice A1 p.vars.length c1, .slice A2 p.procs.length c2, .int .u8 p.main.kind, .int .i64 p.main.num, .string p.main.name, .slice A3 p.main.kids.length c3] 30 (0, 0)), (w1.heap.size + 1, Obj.cells #[.func (.func 44) #[] #[.pointer (some ⟨w1.heap.size, 0, none⟩)]] 76 (0, 0))] wr v3 ∧ L3.length ≤ i)
    (fun s18 _ => p.vars.length - (intOf s18).toNat)
  case atStart => exact ⟨0, _, [], Nat.zero_le _, rfl, HR0.out, Mv.refl _ _ _, by simp, HB0.out, Nat.le_refl _⟩
  case round =>
    obtain ⟨i, v3, L3, hi, rfl, hR3, hM3, hL3, hB3, hLs⟩ := hrel
    by_cases hlt : i < p.vars.length
    · have hvs3 := HR0.out.val hM3 HVS.out
      obtain ⟨b, off, hA1, h0, h1, h2, hns⟩ := vd_at hvs3 i hlt
      have hic : i ≤ c1 := Nat.le_trans (Nat.le_of_lt hlt) (vd_cap hvs3)
      subst hA1
      have hii : inr .i64 (i : Int) := by constructor <;> simp [IntKind.min, IntKind.max, IntKind.bits, IntKind.signed] <;> omega
      have hP5 := hB3 (w.heap.size, _) List.mem_cons_self
      have hN5 := hB3 (w1.heap.size + 1, _) (List.mem_cons_of_mem _ List.mem_cons_self)
      have hbe := heap_alloc_new wr (.cells #[.string p.vars[i].name, .int .u8 p.vars[i].kind, .int .i64 p.vars[i].len] 34)
      have hbp5 := (Below.heap_alloc wr (.cells #[.string p.vars[i].name, .int .u8 p.vars[i].kind, .int .i64 p.vars[i].len] 34) _ (Array.getElem?_eq_some_iff.1 hP5.1).1).trans hP5.1
      have hbn5 := (Below.heap_alloc wr (.cells #[.string p.vars[i].name, .int .u8 p.vars[i].kind, .int .i64 p.vars[i].len] 34) _ (Array.getElem?_eq_some_iff.1 hN5.1).1).trans hN5.1
      have hwr := hM3.size
      simp only [World.size_alloc] at hwr
      have HR3 := Lib.hid hR3
      have HM3 := Lib.hid hM3
      have HB3 := Lib.hid hB3
      have HLT3 := Lib.hid hR3.row.lt
      have HR5 := Lib.hid (hR3.below ((Below.refl _ wr).alloc (Nat.le_refl _) (.cells #[.string p.vars[i].name, .int .u8 p.vars[i].kind, .int .i64 p.vars[i].len] 34)))
      have HT5 := Lib.hid (vd_take (hR3.val (.of_below ((Below.refl _ wr).alloc (Nat.le_refl _) (.cells #[.string p.vars[i].name, .int .u8 p.vars[i].kind, .int .i64 p.vars[i].len] 34))) hvs3) i (by omega))
      obtain ⟨fp0, fp1, fp2, fp3, fp4, fp5⟩ := six_at hbp5
      have fr := cell_of_row _ _ 0 _ _ _ hbn5
      have fe0 := cell_of_row _ _ 0 _ _ _ hbe
      have fe1 := cell_of_row _ _ 1 _ _ _ hbe
      have fe2 := cell_of_row _ _ 2 _ _ _ hbe
      clear hR3 hM3 hB3 hvs3 hP5 hN5 hbe hbp5 hbn5
      go_wp2_with fail
      refine (wpIn_wide (n := 0)).1 (serial [12] hmo ?_)
      simp only [List.size_toArray, List.length_cons, List.length_nil, Nat.reduceAdd]
      refine takeL (via := []) (v := ?_) hfn (by kernel_rfl) (i := 0) rfl (by kernel_rfl) (wanted_none rfl) (fun w' hbk => ?_) ?_
      rotate_left
      · simp [execOp, go_sem, keepc hbk fr]; exact rfl
      simp only [Act.put, List.setIfInBounds_toArray, List.set_cons_succ, List.set_cons_zero]
      refine takeF (v := ?_) hfn (by kernel_rfl) (i := 1) rfl (by kernel_rfl) (wanted_none rfl) (fun w' => ?_) ?_
      rotate_left
      · simp [execOp, go_sem]; exact rfl
      simp only [Act.put, List.setIfInBounds_toArray, List.set_cons_succ, List.set_cons_zero]
      refine takeF (v := ?_) hfn (by kernel_rfl) (i := 3) rfl (by kernel_rfl) (wanted_none rfl) (fun w' => ?_) ?_
      rotate_left
      · simp [execOp, go_sem]; exact rfl
      simp only [Act.put, List.setIfInBounds_toArray, List.set_cons_succ, List.set_cons_zero]
      refine takeL (via := []) (v := ?_) hfn (by kernel_rfl) (i := 4) rfl (by kernel_rfl) (wanted_none rfl) (fun w' hbk => ?_) ?_
      rotate_left
      · simp [execOp, go_sem, keepc hbk fe0]; exact rfl
      simp only [Act.put, List.setIfInBounds_toArray, List.set_cons_succ, List.set_cons_zero]
      refine takeF (v := ?_) hfn (by kernel_rfl) (i := 5) rfl (by kernel_rfl) (wanted_none rfl) (fun w' => ?_) ?_
      rotate_left
      · simp [execOp, go_sem]; exact rfl
      simp only [Act.put, List.setIfInBounds_toArray, List.set_cons_succ, List.set_cons_zero]
      refine takeL (via := [[12, 11, 8]]) (v := ?_) hfn (by kernel_rfl) (i := 6) rfl (by kernel_rfl) (wanted_none rfl) (fun w' hbk => ?_) ?_
      rotate_left
      · simp [execOp, go_sem, keepc hbk fp0]; exact rfl
      simp only [Act.put, List.setIfInBounds_toArray, List.set_cons_succ, List.set_cons_zero]
      refine takeF (v := ?_) hfn (by kernel_rfl) (i := 7) rfl (by kernel_rfl) (wanted_none rfl) (fun w' => ?_) ?_
      rotate_left
      · simp [execOp, go_sem]; exact rfl
      simp only [Act.put, List.setIfInBounds_toArray, List.set_cons_succ, List.set_cons_zero]
      refine takeF (v := ?_) hfn (by kernel_rfl) (i := 8) rfl (by kernel_rfl) (wanted_none rfl) (fun w' => ?_) ?_
      rotate_left
      · simp [execOp, go_sem, hic]; exact rfl
      simp only [Act.put, List.setIfInBounds_toArray, List.set_cons_succ, List.set_cons_zero]
      refine takeF (v := ?_) hfn (by kernel_rfl) (i := 9) rfl (by kernel_rfl) (wanted_none rfl) (fun w' => ?_) ?_
      rotate_left
      · simp [execOp, go_sem]; exact rfl
      simp only [Act.put, List.setIfInBounds_toArray, List.set_cons_succ, List.set_cons_zero]
      refine takeL (via := [[12, 11]]) (v := ?_) hfn (by kernel_rfl) (i := 10) rfl (by kernel_rfl) (wanted_none rfl) (fun w' hbk => ?_) ?_
      rotate_left
      · simp [execOp, go_sem, keepc hbk fe0]; exact rfl
      simp only [Act.put, List.setIfInBounds_toArray, List.set_cons_succ, List.set_cons_zero]
      refine runTwo (j := 2) (k := 11) (by kernel_rfl) ?_ ?_
      · refine stepV (v := ?_) (w1 := ?_) hfn (by kernel_rfl) (j := 2) rfl (wanted_none rfl) ?_ (fun _ => ?_) ?_
        rotate_left; rotate_left
        · simp [execOp, go_sem]; (refine And.intro ?_ ?_ <;> exact rfl)
        · exact (Below.refl _ _).alloc (Nat.le_refl _) _
        intro hb2
        simp only [Act.put, List.setIfInBounds_toArray, List.set_cons_succ, List.set_cons_zero]
        refine runC (f := ?_) (args := ?_) hfn hdp (by kernel_rfl) (j := 11) rfl (by kernel_rfl) (wanted_none rfl) ?_ ?_
        rotate_left; rotate_left
        · simp [go_sem]; (refine And.intro ?_ ?_ <;> exact rfl)
        have hb2 := hb2 rfl
        have hRx := HR5.out.drew.below hb2
        have hMx := (Mv.of_below (F := w1.heap.size) (v := v3) (Below.refl _ (wr.alloc (.cells #[.string p.vars[i].name, .int .u8 p.vars[i].kind, .int .i64 p.vars[i].len] 34))).drew).trans (.of_below hb2)
        refine (callsIn_wide.2 (dcall (fresh_take p.vars i p.vars[i].name (by omega)) hRx (vals_two_of (HR5.out.val hMx HT5.out) (val.of1 ⟨_, .str _ hns, rfl⟩)))).mono ?_
        rintro e w7 ⟨ve, rfl, hb7, hq7⟩
        obtain ⟨rfl, hei⟩ := val_int hq7
        refine ⟨_, rfl, fun _ => hb7, ?_⟩
        simp only [Act.put, List.setIfInBounds_toArray, List.set_cons_succ, List.set_cons_zero]
        refine runC (f := ?_) (args := ?_) hfn hdp (by kernel_rfl) (j := 12) rfl (by kernel_rfl) (wanted_none rfl) ?_ ?_
        rotate_left; rotate_left
        · simp [execOp, go_sem]; (refine And.intro ?_ ?_ <;> exact rfl)
        have hM7 : Mv (w1.heap.size) (wr.alloc (.cells #[.string p.vars[i].name, .int .u8 p.vars[i].kind, .int .i64 p.vars[i].len] 34)) v3 w7 v3 := hMx.trans (.of_below hb7)
        have hRy := hRx.below hb7
        have hz7 : wr.heap.size + 2 ≤ w7.heap.size := by have h9 : ((wr.alloc (.cells #[.string p.vars[i].name, .int .u8 p.vars[i].kind, .int .i64 p.vars[i].len] 34)).alloc (.cells #[.int .i64 (i : Int)] 3)).heap.size ≤ w7.heap.size := hb7.size; simp only [World.size_alloc] at h9; omega
        have hgy : w7.heap[wr.heap.size + 1]? = some (.cells #[.int .i64 (i : Int)] 3 (0, 0)) := (hb7.block (wr.heap.size + 1) (show wr.heap.size + 1 < ((wr.alloc (.cells #[.string p.vars[i].name, .int .u8 p.vars[i].kind, .int .i64 p.vars[i].len] 34)).alloc (.cells #[.int .i64 (i : Int)] 3)).heap.size by simp only [World.size_alloc]; omega)).trans (by have := heap_alloc_new (wr.alloc (.cells #[.string p.vars[i].name, .int .u8 p.vars[i].kind, .int .i64 p.vars[i].len] 34)) (.cells #[.int .i64 (i : Int)] 3); rw [show (wr.alloc (.cells #[.string p.vars[i].name, .int .u8 p.vars[i].kind, .int .i64 p.vars[i].len] 34)).heap.size = wr.heap.size + 1 from by simp] at this; exact this)
        have hpy := one_path (B0 := w.heap.size) (F := w1.heap.size) (v := v3) (ok0 := ok0) (i := (i : Int)) hii hgy (by omega) (by omega) (fun e => by have := (HLT3.out _ e).2; omega)
        refine (callsIn_wide.2 (report_mem (pr := -1) (path := [(i : Int)]) hRy (by constructor <;> decide) hei hns hpy (by simp) (by omega))).mono ?_
        rintro e w8 ⟨v8, ⟨u8, rfl⟩, ⟨hc8, ho8⟩, hM8⟩
        refine ⟨_, rfl, fun e => (by cases e), ?_⟩
        simp only [Act.put, List.setIfInBounds_toArray, List.set_cons_succ, List.set_cons_zero]
        refine doneK (by kernel_rfl) ?_
        have hsz7 := hb7.size
        skip
        have hM8' := hM7.trans hM8
        have HR8 : Hid (Rs ok0 (w.heap.size) (w1.heap.size) w8 v8 (L3 ++ rep (-1) [(i : Int)] (freshE (p.vars.take i) p.vars[i].name) p.vars[i].name)) := Lib.hid ⟨hc8, ho8, HR3.out.old, HR3.out.le⟩
        have HM8 := Lib.hid (HM3.out.trans ((Mv.of_below (F := w1.heap.size) (v := v3) ((Below.refl _ wr).alloc (Nat.le_refl _) (.cells #[.string p.vars[i].name, .int .u8 p.vars[i].kind, .int .i64 p.vars[i].len] 34))).trans hM8'))
        have HB8 := Lib.hid (HB3.out.mv ((Mv.of_below (F := w1.heap.size) (v := v3) ((Below.refl _ wr).alloc (Nat.le_refl _) (.cells #[.string p.vars[i].name, .int .u8 p.vars[i].kind, .int .i64 p.vars[i].len] 34))).trans hM8'))
        clear hRx hMx hb7 hq7 hM7 hM8 hM8' hRy hgy hpy hc8 ho8 hb2 fr fp0 fp1 fp2 fp3 fp4 fp5 fe0 fe1 fe2
        go_wp2_with fail
        go_roundw
        case rel => exact ⟨i + 1, v8, _, by omega, by go_num, HR8.out, HM8.out, by rw [← hL3, vrF_drop (-1) true p.vars p.vars i hlt, List.append_assoc]; rfl, HB8.out, by have := rep_len (-1) [(i : Int)] (freshE (p.vars.take i) p.vars[i].name) p.vars[i].name; rw [List.length_append]; omega⟩
        case measure => simp [intOf]; omega
      · refine stepC (f := ?_) (args := ?_) hfn hdp (by kernel_rfl) (j := 11) rfl (wanted_none rfl) ?_ ?_
        rotate_left; rotate_left
        · simp [go_sem]; (refine And.intro ?_ ?_ <;> exact rfl)
        have hRx := HR5.out.drew
        have hMx : Mv (w1.heap.size) (wr.alloc (.cells #[.string p.vars[i].name, .int .u8 p.vars[i].kind, .int .i64 p.vars[i].len] 34)) v3 (wr.alloc (.cells #[.string p.vars[i].name, .int .u8 p.vars[i].kind, .int .i64 p.vars[i].len] 34)).drew v3 := .of_below (Below.refl _ _).drew
        refine (callsIn_wide.2 (dcall (fresh_take p.vars i p.vars[i].name (by omega)) hRx (vals_two_of (HR5.out.val hMx HT5.out) (val.of1 ⟨_, .str _ hns, rfl⟩)))).mono ?_
        rintro e w7 ⟨ve, rfl, hb7, hq7⟩
        obtain ⟨rfl, hei⟩ := val_int hq7
        refine ⟨_, rfl, fun _ => hb7, ?_⟩
        simp only [Act.put, List.setIfInBounds_toArray, List.set_cons_succ, List.set_cons_zero]
        refine runV (v := ?_) (w1 := ?_) hfn (by kernel_rfl) (j := 2) rfl (by kernel_rfl) (wanted_none rfl) ?_ (fun _ => ?_) ?_
        rotate_left; rotate_left
        · simp [execOp, go_sem]; (refine And.intro ?_ ?_ <;> exact rfl)
        · exact (Below.refl _ _).alloc (Nat.le_refl _) _
        intro hb2
        simp only [Act.put, List.setIfInBounds_toArray, List.set_cons_succ, List.set_cons_zero]
        refine runC (f := ?_) (args := ?_) hfn hdp (by kernel_rfl) (j := 12) rfl (by kernel_rfl) (wanted_none rfl) ?_ ?_
        rotate_left; rotate_left
        · simp [execOp, go_sem]; (refine And.intro ?_ ?_ <;> exact rfl)
        have hb2 := hb2 rfl
        have hz7 : wr.heap.size + 1 ≤ w7.heap.size := by have h9 : (wr.alloc (.cells #[.string p.vars[i].name, .int .u8 p.vars[i].kind, .int .i64 p.vars[i].len] 34)).heap.size ≤ w7.heap.size := hb7.size; simp only [World.size_alloc] at h9; omega
        have hM7 : Mv (w1.heap.size) (wr.alloc (.cells #[.string p.vars[i].name, .int .u8 p.vars[i].kind, .int .i64 p.vars[i].len] 34)) v3 (w7.alloc (.cells #[.int .i64 (i : Int)] 3)) v3 := (hMx.trans (.of_below hb7)).trans (.of_below hb2)
        have hRy := (hRx.below hb7).below hb2
        have hgy := heap_alloc_new w7 (.cells #[.int .i64 (i : Int)] 3)
        have hpy := one_path (B0 := w.heap.size) (F := w1.heap.size) (v := v3) (ok0 := ok0) (i := (i : Int)) hii hgy (by omega) (by omega) (fun e => by have := (HLT3.out _ e).2; omega)
        refine (callsIn_wide.2 (report_mem (pr := -1) (path := [(i : Int)]) hRy (by constructor <;> decide) hei hns hpy (by simp) (by omega))).mono ?_
        rintro e w8 ⟨v8, ⟨u8, rfl⟩, ⟨hc8, ho8⟩, hM8⟩
        refine ⟨_, rfl, fun e => (by cases e), ?_⟩
        simp only [Act.put, List.setIfInBounds_toArray, List.set_cons_succ, List.set_cons_zero]
        refine doneK (by kernel_rfl) ?_
        have hsz7 := hb7.size
        skip
        have hM8' := hM7.trans hM8
        have HR8 : Hid (Rs ok0 (w.heap.size) (w1.heap.size) w8 v8 (L3 ++ rep (-1) [(i : Int)] (freshE (p.vars.take i) p.vars[i].name) p.vars[i].name)) := Lib.hid ⟨hc8, ho8, HR3.out.old, HR3.out.le⟩
        have HM8 := Lib.hid (HM3.out.trans ((Mv.of_below (F := w1.heap.size) (v := v3) ((Below.refl _ wr).alloc (Nat.le_refl _) (.cells #[.string p.vars[i].name, .int .u8 p.vars[i].kind, .int .i64 p.vars[i].len] 34))).trans hM8'))
        have HB8 := Lib.hid (HB3.out.mv ((Mv.of_below (F := w1.heap.size) (v := v3) ((Below.refl _ wr).alloc (Nat.le_refl _) (.cells #[.string p.vars[i].name, .int .u8 p.vars[i].kind, .int .i64 p.vars[i].len] 34))).trans hM8'))
        clear hRx hMx hb7 hq7 hM7 hM8 hM8' hRy hgy hpy hc8 ho8 hb2 fr fp0 fp1 fp2 fp3 fp4 fp5 fe0 fe1 fe2
        go_wp2_with fail
        go_roundw
        case rel => exact ⟨i + 1, v8, _, by omega, by go_num, HR8.out, HM8.out, by rw [← hL3, vrF_drop (-1) true p.vars p.vars i hlt, List.append_assoc]; rfl, HB8.out, by have := rep_len (-1) [(i : Int)] (freshE (p.vars.take i) p.vars[i].name) p.vars[i].name; rw [List.length_append]; omega⟩
        case measure => simp [intOf]; omega
    · obtain ⟨wa, hwa0⟩ : ∃ x, x = wr := ⟨_, rfl⟩
      subst hwa0
      obtain rfl : i = p.vars.length := by omega
      rw [List.drop_of_length_le (Nat.le_refl _)] at hL3
      simp only [vrF, List.append_nil] at hL3
      subst hL3
      have hP5 := (hB3 (w.heap.size, _) List.mem_cons_self).1
      obtain ⟨fp0, fp1, fp2, fp3, fp4, fp5⟩ := six_at hP5
      have HRV := Lib.hid hR3
      have HMV := Lib.hid hM3
      have HBV := Lib.hid hB3
      clear hR3 hM3 hB3 hP5
      go_wp2_with fail
      go_loopw [40] (fun s40 wq => ∃ (i : Nat) (v4 : Value) (L4 : List Ft), i ≤ p.procs.length ∧ s40 = .int .i64 i ∧ Rs ok0 (w.heap.size) (w1.heap.size) wq v4 L4 ∧ Mv (w1.heap.size) ((w1.alloc (.cells #[.slice none 0 0] 40)).alloc (.cells #[.func (.func 44) #[] #[.pointer (some ⟨w1.heap.size, 0, none⟩)]] 76)) (.slice none 0 0) wq v4 ∧ L4 ++ procsF p (p.procs.drop i) i = vrF (-1) true p.vars p.vars 0 ++ procsF p p.procs 0 ∧ Ibox (w1.heap.size) [(w.heap.size, Obj.cells #[.slice A1 p.vars.length c1, .slice A2 p.procs.length c2, .int .u8 p.main.kind, .int .i64 p.main.num, .string p.main.name, .slice A3 p.main.kids.length c3] 30 (0, 0)), (w1.heap.size + 1, Obj.cells #[.func (.func 44) #[] #[.pointer (some ⟨w1.heap.size, 0, none⟩)]] 76 (0, 0))] wq v4 ∧ L4.length ≤ 32 + i * 2010)
        (fun s40 _ => p.procs.length - (intOf s40).toNat)
      case atStart => exact ⟨0, v3, _, Nat.zero_le _, rfl, HRV.out, HMV.out, by simp, HBV.out, by omega⟩
      case round =>
        obtain ⟨wq, hwq0⟩ : ∃ x, x = wr := ⟨_, rfl⟩
        subst hwq0
        obtain ⟨i, v4, L4, hi4, rfl, hR4, hM4, hL4, hB4, hLs4⟩ := hrel
        by_cases hqt : i < p.procs.length
        · have hqs4 := HR0.out.val hM4 HQS.out
          obtain ⟨b, off, A6, A7, c6, c7, hA2, h0, h1, h2, h3, h4, h5, hps, hbd, hqn⟩ := pr_at hqs4 i hqt
          subst hA2
          have hii : inr .i64 (i : Int) := by constructor <;> simp [IntKind.min, IntKind.max, IntKind.bits, IntKind.signed] <;> omega
          have hbpi := hbq p.procs[i] (List.getElem_mem hqt)
          have hwq := hM4.size
          simp only [World.size_alloc] at hwq
          have hb6 : Below wq.heap.size wq ((wq.alloc (.cells #[.int .i64 (i : Int)] 3)).alloc (.cells #[.string p.procs[i].name, .slice A6 p.procs[i].params.length c6, .int .u8 p.procs[i].body.kind, .int .i64 p.procs[i].body.num, .string p.procs[i].body.name, .slice A7 p.procs[i].body.kids.length c7] 32)) := ((Below.refl _ wq).alloc (Nat.le_refl _) _).alloc (by simp) _
          have hM6 : Mv (w1.heap.size) wq v4 ((wq.alloc (.cells #[.int .i64 (i : Int)] 3)).alloc (.cells #[.string p.procs[i].name, .slice A6 p.procs[i].params.length c6, .int .u8 p.procs[i].body.kind, .int .i64 p.procs[i].body.num, .string p.procs[i].body.name, .slice A7 p.procs[i].body.kids.length c7] 32)) v4 := .of_below hb6
          have hB6 : Ibox (w1.heap.size) [(w.heap.size, Obj.cells #[.slice A1 p.vars.length c1, .slice (some ⟨b, off, none⟩) p.procs.length c2, .int .u8 p.main.kind, .int .i64 p.main.num, .string p.main.name, .slice A3 p.main.kids.length c3] 30 (0, 0)), (w1.heap.size + 1, Obj.cells #[.func (.func 44) #[] #[.pointer (some ⟨w1.heap.size, 0, none⟩)]] 76 (0, 0)), (wq.heap.size, Obj.cells #[.int .i64 (i : Int)] 3 (0, 0)), (wq.heap.size + 1, Obj.cells #[.string p.procs[i].name, .slice A6 p.procs[i].params.length c6, .int .u8 p.procs[i].body.kind, .int .i64 p.procs[i].body.num, .string p.procs[i].body.name, .slice A7 p.procs[i].body.kids.length c7] 32 (0, 0))] ((wq.alloc (.cells #[.int .i64 (i : Int)] 3)).alloc (.cells #[.string p.procs[i].name, .slice A6 p.procs[i].params.length c6, .int .u8 p.procs[i].body.kind, .int .i64 p.procs[i].body.num, .string p.procs[i].body.name, .slice A7 p.procs[i].body.kids.length c7] 32)) v4 := fun x hx => by
            simp only [List.mem_cons, List.not_mem_nil, or_false] at hx
            rcases hx with rfl | rfl | rfl | rfl
            · exact hB4.mv hM6 (w.heap.size, _) List.mem_cons_self
            · exact hB4.mv hM6 (w1.heap.size + 1, _) (List.mem_cons_of_mem _ List.mem_cons_self)
            · exact ⟨heap_alloc2_old wq _ _, by simp; omega, fun e => by have := (hR4.row.lt _ e).2; simp at this⟩
            · exact ⟨heap_alloc2_new wq _ _, by simp; omega, fun e => by have := (hR4.row.lt _ e).2; simp at this; omega⟩
          have HR6 := Lib.hid (hR4.below hb6)
          have HM6 := Lib.hid (hM4.trans hM6)
          have HB6 := Lib.hid hB6
          have HPS6 := Lib.hid (hR4.val hM6 hps)
          have HBD6 := Lib.hid (hR4.val hM6 hbd)
          have HPV6 := Lib.hid (HR0.out.val (hM4.trans hM6) HP2.out)
          have hP5 := (hB6 (w.heap.size, _) List.mem_cons_self).1
          have hI5 := (hB6 (wq.heap.size, _) (List.mem_cons_of_mem _ (List.mem_cons_of_mem _ List.mem_cons_self))).1
          have hQ5 := (hB6 (wq.heap.size + 1, _) (List.mem_cons_of_mem _ (List.mem_cons_of_mem _ (List.mem_cons_of_mem _ List.mem_cons_self)))).1
          obtain ⟨fp0, fp1, fp2, fp3, fp4, fp5⟩ := six_at hP5
          obtain ⟨fq0, fq1, fq2, fq3, fq4, fq5⟩ := six_at hQ5
          have fi := cell_of_row _ _ 0 _ _ _ hI5
          clear hR4 hM4 hB4 hqs4 hps hbd hb6 hM6 hB6 hP5 hI5 hQ5
          go_wp2_with fail
          refine (wpIn_wide (n := 0)).1 (serial [] hmo ?_)
          simp only [List.size_toArray, List.length_cons, List.length_nil, Nat.reduceAdd]
          refine takeL (via := []) (v := ?_) hfn (by kernel_rfl) (i := 0) rfl (by kernel_rfl) (wanted_none rfl) (fun w' hbk => ?_) ?_
          rotate_left
          · simp [execOp, go_sem, keepc hbk fp0, keepc hbk fp1, keepc hbk fp2, keepc hbk fp3, keepc hbk fp4, keepc hbk fp5]; exact rfl
          simp only [Act.put, List.setIfInBounds_toArray, List.set_cons_succ, List.set_cons_zero]
          refine takeF (v := ?_) hfn (by kernel_rfl) (i := 1) rfl (by kernel_rfl) (wanted_none rfl) (fun w' => ?_) ?_
          rotate_left
          · simp [execOp, go_sem]; exact rfl
          simp only [Act.put, List.setIfInBounds_toArray, List.set_cons_succ, List.set_cons_zero]
          refine takeL (via := []) (v := ?_) hfn (by kernel_rfl) (i := 2) rfl (by kernel_rfl) (wanted_none rfl) (fun w' hbk => ?_) ?_
          rotate_left
          · simp [execOp, go_sem, keepc hbk fq0]; exact rfl
          simp only [Act.put, List.setIfInBounds_toArray, List.set_cons_succ, List.set_cons_zero]
          refine takeL (via := []) (v := ?_) hfn (by kernel_rfl) (i := 4) rfl (by kernel_rfl) (wanted_none rfl) (fun w' hbk => ?_) ?_
          rotate_left
          · simp [execOp, go_sem, keepc hbk fi]; exact rfl
          simp only [Act.put, List.setIfInBounds_toArray, List.set_cons_succ, List.set_cons_zero]
          refine runC (f := ?_) (args := ?_) hfn hdp (by kernel_rfl) (j := 3) rfl (by kernel_rfl) (wanted_none rfl) ?_ ?_
          rotate_left; rotate_left
          · simp [go_sem]; (refine And.intro ?_ ?_ <;> exact rfl)
          refine (callsIn_wide.2 (dcall (proc_fn p p.procs[i].name (by omega)) HR6.out.drew (vals_two_of (HR6.out.val (Mv.of_below (Below.refl _ _).drew) HPV6.out) (val.of1 ⟨_, .str _ hqn, rfl⟩)))).mono ?_
          rintro e w7 ⟨ve, rfl, hb7, hq7⟩
          obtain ⟨rfl, _⟩ := val_int hq7
          refine ⟨_, rfl, fun _ => hb7, ?_⟩
          simp only [Act.put, List.setIfInBounds_toArray, List.set_cons_succ, List.set_cons_zero]
          refine takeF (v := ?_) hfn (by kernel_rfl) (i := 5) rfl (by kernel_rfl) (wanted_none rfl) (fun w' => ?_) ?_
          rotate_left
          · simp [execOp, go_sem]; exact rfl
          simp only [Act.put, List.setIfInBounds_toArray, List.set_cons_succ, List.set_cons_zero]
          refine doneK (by kernel_rfl) ?_
          have hM7 : Mv (w1.heap.size) ((wq.alloc (.cells #[.int .i64 (i : Int)] 3)).alloc (.cells #[.string p.procs[i].name, .slice A6 p.procs[i].params.length c6, .int .u8 p.procs[i].body.kind, .int .i64 p.procs[i].body.num, .string p.procs[i].body.name, .slice A7 p.procs[i].body.kids.length c7] 32)) v4 w7 v4 := (Mv.of_below (Below.refl _ _).drew).trans (.of_below hb7)
          have HR7 := Lib.hid (HR6.out.drew.below hb7)
          have HM7 := Lib.hid (HM6.out.trans hM7)
          have HB7 := Lib.hid (HB6.out.mv hM7)
          have HPS7 := Lib.hid (HR6.out.val hM7 HPS6.out)
          have HBD7 := Lib.hid (HR6.out.val hM7 HBD6.out)
          have hN7 := (HB7.out (w1.heap.size + 1, _) (List.mem_cons_of_mem _ List.mem_cons_self)).1
          have hI7 := (HB7.out (wq.heap.size, _) (List.mem_cons_of_mem _ (List.mem_cons_of_mem _ List.mem_cons_self))).1
          have hQ7 := (HB7.out (wq.heap.size + 1, _) (List.mem_cons_of_mem _ (List.mem_cons_of_mem _ (List.mem_cons_of_mem _ List.mem_cons_self)))).1
          clear hM7 hb7 hq7 fi fp0 fp1 fp2 fp3 fp4 fp5 fq0 fq1 fq2 fq3 fq4 fq5
          have fr := cell_of_row _ _ 0 _ _ _ hN7
          have fi := cell_of_row _ _ 0 _ _ _ hI7
          obtain ⟨fq0, fq1, fq2, fq3, fq4, fq5⟩ := six_at hQ7
          clear hN7 hI7 hQ7
          have hpf : procF p i p.procs[i] = (if procI p p.procs[i].name < (i : Int) then [⟨i, [], 22, p.procs[i].name⟩] else []) ++ (vrF i false p.procs[i].params p.procs[i].params 0 ++ visF p i p.procs[i].body [] p.procs[i].params) := rfl
          cases hd7 : decide (idxN p.procs p.procs[i].name 0 p.procs.length < (i : Int))
          case true =>
            rw [if_pos (show procI p p.procs[i].name < (i : Int) from of_decide_eq_true hd7)] at hpf
            go_wp2_with fail
            refine (report_mem (pr := (i : Int)) (path := []) (err := 22) HR7.out hii (by constructor <;> decide) hqn (no_path (g := (okGh (Okv ok0 (w.heap.size) (w1.heap.size) w7 v4)))) (by simp) (by omega)).mono ?_
            rintro e w9 ⟨v9, ⟨u9, rfl⟩, ⟨hc9, ho9⟩, hM9⟩
            obtain ⟨L9, hL9⟩ : ∃ L9, L9 = L4 ++ rep i [] 22 p.procs[i].name := ⟨_, rfl⟩
            rw [← hL9] at ho9
            have HR9 : Hid (Rs ok0 (w.heap.size) (w1.heap.size) w9 v9 L9) := Lib.hid ⟨hc9, ho9, HR7.out.old, HR7.out.le⟩
            have HM9 := Lib.hid (HM7.out.trans hM9)
            have HB9 := Lib.hid (HB7.out.mv hM9)
            have HPS9 := Lib.hid (HR7.out.val hM9 HPS7.out)
            have HBD9 := Lib.hid (HR7.out.val hM9 HBD7.out)
            have HL9 := Lib.hid (show L9.length ≤ L4.length + 1 by rw [hL9, List.length_append]; exact Nat.le_refl _)
            have HPF : Hid (L9 ++ (vrF i false p.procs[i].params p.procs[i].params 0 ++ visF p i p.procs[i].body [] p.procs[i].params) = L4 ++ procF p i p.procs[i]) := Lib.hid (by rw [hpf, hL9, rep_22, List.append_assoc])
            have hl9 := HL9.out
            clear hM9 hc9 ho9 hL9 hpf fr fi fq0 fq1 fq2 fq3 fq4 fq5
            have bq9 := (HB9.out (wq.heap.size + 1, _) (List.mem_cons_of_mem _ (List.mem_cons_of_mem _ (List.mem_cons_of_mem _ List.mem_cons_self)))).1
            obtain ⟨fq0, fq1, fq2, fq3, fq4, fq5⟩ := six_at bq9
            clear bq9
            go_wp2_with fail
            go_loopw [59] (fun s59 wt => ∃ (j : Nat) (v5 : Value) (L5 : List Ft), j ≤ p.procs[i].params.length ∧ s59 = .int .i64 j ∧ Rs ok0 (w.heap.size) (w1.heap.size) wt v5 L5 ∧ Mv (w1.heap.size) w9 v9 wt v5 ∧ L5 ++ vrF i false p.procs[i].params (p.procs[i].params.drop j) j = L9 ++ vrF i false p.procs[i].params p.procs[i].params 0 ∧ Ibox (w1.heap.size) [(w.heap.size, Obj.cells #[.slice A1 p.vars.length c1, .slice (some ⟨b, off, none⟩) p.procs.length c2, .int .u8 p.main.kind, .int .i64 p.main.num, .string p.main.name, .slice A3 p.main.kids.length c3] 30 (0, 0)), (w1.heap.size + 1, Obj.cells #[.func (.func 44) #[] #[.pointer (some ⟨w1.heap.size, 0, none⟩)]] 76 (0, 0)), (wq.heap.size, Obj.cells #[.int .i64 (i : Int)] 3 (0, 0)), (wq.heap.size + 1, Obj.cells #[.string p.procs[i].name, .slice A6 p.procs[i].params.length c6, .int .u8 p.procs[i].body.kind, .int .i64 p.procs[i].body.num, .string p.procs[i].body.name, .slice A7 p.procs[i].body.kids.length c7] 32 (0, 0))] wt v5 ∧ L5.length ≤ L9.length + j)
              (fun s59 _ => p.procs[i].params.length - (intOf s59).toNat)
            case atStart => exact ⟨0, v9, L9, Nat.zero_le _, rfl, HR9.out, Mv.refl _ _ _, by simp, HB9.out, Nat.le_refl _⟩
            case round =>
              obtain ⟨wt, hwt0⟩ : ∃ x, x = wr := ⟨_, rfl⟩
              subst hwt0
              obtain ⟨j, v5, L5, hj, rfl, hR5, hM5, hL5, hB5, hLs5⟩ := hrel
              by_cases hjt : j < p.procs[i].params.length
              · have hvs5 := HR9.out.val hM5 HPS9.out
                obtain ⟨b5, off5, hA6, h50, h51, h52, hns⟩ := vd_at hvs5 j hjt
                have hic : j ≤ c6 := Nat.le_trans (Nat.le_of_lt hjt) (vd_cap hvs5)
                subst hA6
                have hP5 := hB5 (w.heap.size, _) List.mem_cons_self
                have hN5 := hB5 (w1.heap.size + 1, _) (List.mem_cons_of_mem _ List.mem_cons_self)
                have hI5 := hB5 (wq.heap.size, _) (List.mem_cons_of_mem _ (List.mem_cons_of_mem _ List.mem_cons_self))
                have hQ5 := hB5 (wq.heap.size + 1, _) (List.mem_cons_of_mem _ (List.mem_cons_of_mem _ (List.mem_cons_of_mem _ List.mem_cons_self)))
                have hbe := heap_alloc_new wt (.cells #[.string p.procs[i].params[j].name, .int .u8 p.procs[i].params[j].kind, .int .i64 p.procs[i].params[j].len] 34)
                have hbp5 := (Below.heap_alloc wt (.cells #[.string p.procs[i].params[j].name, .int .u8 p.procs[i].params[j].kind, .int .i64 p.procs[i].params[j].len] 34) _ (Array.getElem?_eq_some_iff.1 hP5.1).1).trans hP5.1
                have hbn5 := (Below.heap_alloc wt (.cells #[.string p.procs[i].params[j].name, .int .u8 p.procs[i].params[j].kind, .int .i64 p.procs[i].params[j].len] 34) _ (Array.getElem?_eq_some_iff.1 hN5.1).1).trans hN5.1
                have hbi5 := (Below.heap_alloc wt (.cells #[.string p.procs[i].params[j].name, .int .u8 p.procs[i].params[j].kind, .int .i64 p.procs[i].params[j].len] 34) _ (Array.getElem?_eq_some_iff.1 hI5.1).1).trans hI5.1
                have hbq5 := (Below.heap_alloc wt (.cells #[.string p.procs[i].params[j].name, .int .u8 p.procs[i].params[j].kind, .int .i64 p.procs[i].params[j].len] 34) _ (Array.getElem?_eq_some_iff.1 hQ5.1).1).trans hQ5.1
                have hwt := hM5.size
                have HR5 := Lib.hid hR5
                have HM5 := Lib.hid hM5
                have HB5 := Lib.hid hB5
                have HRA := Lib.hid (hR5.below ((Below.refl _ wt).alloc (Nat.le_refl _) (.cells #[.string p.procs[i].params[j].name, .int .u8 p.procs[i].params[j].kind, .int .i64 p.procs[i].params[j].len] 34)))
                have HTA := Lib.hid (vd_take (hR5.val (.of_below ((Below.refl _ wt).alloc (Nat.le_refl _) (.cells #[.string p.procs[i].params[j].name, .int .u8 p.procs[i].params[j].kind, .int .i64 p.procs[i].params[j].len] 34))) hvs5) j (by omega))
                have fr := cell_of_row _ _ 0 _ _ _ hbn5
                have fi := cell_of_row _ _ 0 _ _ _ hbi5
                obtain ⟨fq0, fq1, fq2, fq3, fq4, fq5⟩ := six_at hbq5
                have fe0 := cell_of_row _ _ 0 _ _ _ hbe
                have fe1 := cell_of_row _ _ 1 _ _ _ hbe
                have fe2 := cell_of_row _ _ 2 _ _ _ hbe
                clear hR5 hM5 hB5 hvs5 hP5 hN5 hI5 hQ5 hbe hbp5 hbn5 hbi5 hbq5
                go_wp2_with fail
                refine (wpIn_wide (n := 0)).1 (serial [11] hmo ?_)
                simp only [List.size_toArray, List.length_cons, List.length_nil, Nat.reduceAdd]
                refine takeL (via := []) (v := ?_) hfn (by kernel_rfl) (i := 0) rfl (by kernel_rfl) (wanted_none rfl) (fun w' hbk => ?_) ?_
                rotate_left
                · simp [execOp, go_sem, keepc hbk fr]; exact rfl
                simp only [Act.put, List.setIfInBounds_toArray, List.set_cons_succ, List.set_cons_zero]
                refine takeL (via := []) (v := ?_) hfn (by kernel_rfl) (i := 1) rfl (by kernel_rfl) (wanted_none rfl) (fun w' hbk => ?_) ?_
                rotate_left
                · simp [execOp, go_sem, keepc hbk fi]; exact rfl
                simp only [Act.put, List.setIfInBounds_toArray, List.set_cons_succ, List.set_cons_zero]
                refine takeF (v := ?_) hfn (by kernel_rfl) (i := 2) rfl (by kernel_rfl) (wanted_none rfl) (fun w' => ?_) ?_
                rotate_left
                · simp [execOp, go_sem]; exact rfl
                simp only [Act.put, List.setIfInBounds_toArray, List.set_cons_succ, List.set_cons_zero]
                refine takeL (via := []) (v := ?_) hfn (by kernel_rfl) (i := 3) rfl (by kernel_rfl) (wanted_none rfl) (fun w' hbk => ?_) ?_
                rotate_left
                · simp [execOp, go_sem, keepc hbk fe0]; exact rfl
                simp only [Act.put, List.setIfInBounds_toArray, List.set_cons_succ, List.set_cons_zero]
                refine takeF (v := ?_) hfn (by kernel_rfl) (i := 4) rfl (by kernel_rfl) (wanted_none rfl) (fun w' => ?_) ?_
                rotate_left
                · simp [execOp, go_sem]; exact rfl
                simp only [Act.put, List.setIfInBounds_toArray, List.set_cons_succ, List.set_cons_zero]
                refine takeL (via := [[11, 10, 7]]) (v := ?_) hfn (by kernel_rfl) (i := 5) rfl (by kernel_rfl) (wanted_none rfl) (fun w' hbk => ?_) ?_
                rotate_left
                · simp [execOp, go_sem, keepc hbk fq1]; exact rfl
                simp only [Act.put, List.setIfInBounds_toArray, List.set_cons_succ, List.set_cons_zero]
                refine takeF (v := ?_) hfn (by kernel_rfl) (i := 6) rfl (by kernel_rfl) (wanted_none rfl) (fun w' => ?_) ?_
                rotate_left
                · simp [execOp, go_sem]; exact rfl
                simp only [Act.put, List.setIfInBounds_toArray, List.set_cons_succ, List.set_cons_zero]
                refine takeF (v := ?_) hfn (by kernel_rfl) (i := 7) rfl (by kernel_rfl) (wanted_none rfl) (fun w' => ?_) ?_
                rotate_left
                · simp [execOp, go_sem, hic]; exact rfl
                simp only [Act.put, List.setIfInBounds_toArray, List.set_cons_succ, List.set_cons_zero]
                refine takeF (v := ?_) hfn (by kernel_rfl) (i := 8) rfl (by kernel_rfl) (wanted_none rfl) (fun w' => ?_) ?_
                rotate_left
                · simp [execOp, go_sem]; exact rfl
                simp only [Act.put, List.setIfInBounds_toArray, List.set_cons_succ, List.set_cons_zero]
                refine takeL (via := [[11, 10]]) (v := ?_) hfn (by kernel_rfl) (i := 9) rfl (by kernel_rfl) (wanted_none rfl) (fun w' hbk => ?_) ?_
                rotate_left
                · simp [execOp, go_sem, keepc hbk fe0]; exact rfl
                simp only [Act.put, List.setIfInBounds_toArray, List.set_cons_succ, List.set_cons_zero]
                refine runC (f := ?_) (args := ?_) hfn hdp (by kernel_rfl) (j := 10) rfl (by kernel_rfl) (wanted_none rfl) ?_ ?_
                rotate_left; rotate_left
                · simp [go_sem]; (refine And.intro ?_ ?_ <;> exact rfl)
                refine (callsIn_wide.2 (dcall (fresh_take p.procs[i].params j p.procs[i].params[j].name (by omega)) HRA.out.drew (vals_two_of (HRA.out.val (Mv.of_below (Below.refl _ _).drew) HTA.out) (val.of1 ⟨_, .str _ hns, rfl⟩)))).mono ?_
                rintro e w7 ⟨ve, rfl, hb7, hq7⟩
                obtain ⟨rfl, hei⟩ := val_int hq7
                refine ⟨_, rfl, fun _ => hb7, ?_⟩
                simp only [Act.put, List.setIfInBounds_toArray, List.set_cons_succ, List.set_cons_zero]
                refine runC (f := ?_) (args := ?_) hfn hdp (by kernel_rfl) (j := 11) rfl (by kernel_rfl) (wanted_none rfl) ?_ ?_
                rotate_left; rotate_left
                · simp [execOp, go_sem]; (refine And.intro ?_ ?_ <;> exact rfl)
                have hRy := HRA.out.drew.below hb7
                refine (callsIn_wide.2 (report_mem (pr := (i : Int)) (path := []) hRy hii hei hns (no_path (g := (okGh (Okv ok0 (w.heap.size) (w1.heap.size) w7 v5)))) (by simp) (by omega))).mono ?_
                rintro e w8 ⟨v8, ⟨u8, rfl⟩, ⟨hc8, ho8⟩, hM8⟩
                refine ⟨_, rfl, fun e => (by cases e), ?_⟩
                simp only [Act.put, List.setIfInBounds_toArray, List.set_cons_succ, List.set_cons_zero]
                refine doneK (by kernel_rfl) ?_
                have hMA : Mv (w1.heap.size) wt v5 w8 v8 := ((Mv.of_below ((Below.refl _ wt).alloc (Nat.le_refl _) (.cells #[.string p.procs[i].params[j].name, .int .u8 p.procs[i].params[j].kind, .int .i64 p.procs[i].params[j].len] 34))).trans ((Mv.of_below (Below.refl _ _).drew).trans (.of_below hb7))).trans hM8
                have HR8 : Hid (Rs ok0 (w.heap.size) (w1.heap.size) w8 v8 (L5 ++ rep i [] (freshE (p.procs[i].params.take j) p.procs[i].params[j].name) p.procs[i].params[j].name)) := Lib.hid ⟨hc8, ho8, HR5.out.old, HR5.out.le⟩
                have HM8 := Lib.hid (HM5.out.trans hMA)
                have HB8 := Lib.hid (HB5.out.mv hMA)
                clear hRy hb7 hq7 hM8 hMA hc8 ho8 fr fi fq0 fq1 fq2 fq3 fq4 fq5 fe0 fe1 fe2
                go_wp2_with fail
                go_roundw
                case rel => exact ⟨j + 1, v8, _, by omega, by go_num, HR8.out, HM8.out, by rw [← hL5, vrF_drop i false p.procs[i].params p.procs[i].params j hjt, List.append_assoc]; rfl, HB8.out, by have := rep_len i [] (freshE (p.procs[i].params.take j) p.procs[i].params[j].name) p.procs[i].params[j].name; rw [List.length_append]; omega⟩
                case measure => simp [intOf]; omega
              · obtain rfl : j = p.procs[i].params.length := by omega
                rw [List.drop_of_length_le (Nat.le_refl _)] at hL5
                simp only [vrF, List.append_nil] at hL5
                subst hL5
                have hP5 := (hB5 (w.heap.size, _) List.mem_cons_self).1
                have hQ5 := (hB5 (wq.heap.size + 1, _) (List.mem_cons_of_mem _ (List.mem_cons_of_mem _ (List.mem_cons_of_mem _ List.mem_cons_self)))).1
                obtain ⟨fp0, fp1, fp2, fp3, fp4, fp5⟩ := six_at hP5
                obtain ⟨fq0, fq1, fq2, fq3, fq4, fq5⟩ := six_at hQ5
                have HR5 := Lib.hid hR5
                have HM5 := Lib.hid (HM9.out.trans hM5)
                have HB5 := Lib.hid hB5
                have hvl := vrF_len i false p.procs[i].params p.procs[i].params 0
                have HPV := Lib.hid (HR0.out.val HM5.out HP2.out)
                have HPS5 := Lib.hid (HR9.out.val hM5 HPS9.out)
                have HBD5 := Lib.hid (HR9.out.val hM5 HBD9.out)
                clear hR5 hM5 hB5 hP5 hQ5
                go_wp2_with fail
                refine (visit_mem (by omega) (rep_48 (Rb := w1.heap.size + 1) (Ib := wq.heap.size) hii) p.procs[i].body.size p.procs[i].body (Nat.le_refl _) wt v5 _ [] p.procs[i].params _ _ _ _ HR5.out (HB5.out.sub (fun x hx => by simp only [List.mem_cons, List.not_mem_nil, or_false] at hx; rcases hx with rfl | rfl; exact (List.mem_cons_of_mem _ List.mem_cons_self); exact (List.mem_cons_of_mem _ (List.mem_cons_of_mem _ List.mem_cons_self)))) HPV.out HBD5.out (no_path) HPS5.out (by simp; omega) (by omega) (by rw [List.length_append]; omega)).mono ?_
                rintro e wu ⟨v6, ⟨u6, rfl⟩, hR6, hM6⟩
                have HR6 := Lib.hid hR6
                have HM6 := Lib.hid (HM5.out.trans hM6)
                have HB6 := Lib.hid (HB5.out.mv hM6)
                have hvl2 := visF_len p i p.procs[i].body [] p.procs[i].params
                clear hR6 hM6
                go_wp2_with fail
                go_roundw
                case rel => exact ⟨i + 1, v6, _, by omega, by go_num, HR6.out, HM6.out, by rw [← hL4, procsF_drop p p.procs i hqt]; have h9 := congrArg (fun x => x ++ procsF p (p.procs.drop (i + 1)) (i + 1)) HPF.out; simp only [List.append_assoc] at h9 ⊢; exact h9, HB6.out.sub (fun x hx => by simp only [List.mem_cons, List.not_mem_nil, or_false] at hx; rcases hx with rfl | rfl; exact List.mem_cons_self; exact (List.mem_cons_of_mem _ List.mem_cons_self)), by rw [List.length_append, List.length_append]; have := HL9.out; omega⟩
                case measure => simp [intOf]; omega
          case false =>
            rw [if_neg (show ¬ procI p p.procs[i].name < (i : Int) from of_decide_eq_false hd7)] at hpf
            obtain ⟨w9, hw9⟩ : ∃ w9, w9 = w7 := ⟨_, rfl⟩
            obtain ⟨v9, hv9⟩ : ∃ v9, v9 = v4 := ⟨_, rfl⟩
            obtain ⟨L9, hL9⟩ : ∃ L9, L9 = L4 := ⟨_, rfl⟩
            subst hw9 hv9 hL9
            have HR9 := HR7
            have HM9 := HM7
            have HB9 := HB7
            have HPS9 := HPS7
            have HBD9 := HBD7
            have HL9 := Lib.hid (show L9.length ≤ L9.length + 1 by omega)
            have HPF : Hid (L9 ++ (vrF i false p.procs[i].params p.procs[i].params 0 ++ visF p i p.procs[i].body [] p.procs[i].params) = L9 ++ procF p i p.procs[i]) := Lib.hid (by rw [hpf, List.nil_append])
            have hl9 := HL9.out
            clear hpf fr fi fq0 fq1 fq2 fq3 fq4 fq5
            skip
            have bq9 := (HB9.out (wq.heap.size + 1, _) (List.mem_cons_of_mem _ (List.mem_cons_of_mem _ (List.mem_cons_of_mem _ List.mem_cons_self)))).1
            obtain ⟨fq0, fq1, fq2, fq3, fq4, fq5⟩ := six_at bq9
            clear bq9
            go_wp2_with fail
            go_loopw [59] (fun s59 wt => ∃ (j : Nat) (v5 : Value) (L5 : List Ft), j ≤ p.procs[i].params.length ∧ s59 = .int .i64 j ∧ Rs ok0 (w.heap.size) (w1.heap.size) wt v5 L5 ∧ Mv (w1.heap.size) w9 v9 wt v5 ∧ L5 ++ vrF i false p.procs[i].params (p.procs[i].params.drop j) j = L9 ++ vrF i false p.procs[i].params p.procs[i].params 0 ∧ Ibox (w1.heap.size) [(w.heap.size, Obj.cells #[.slice A1 p.vars.length c1, .slice (some ⟨b, off, none⟩) p.procs.length c2, .int .u8 p.main.kind, .int .i64 p.main.num, .string p.main.name, .slice A3 p.main.kids.length c3] 30 (0, 0)), (w1.heap.size + 1, Obj.cells #[.func (.func 44) #[] #[.pointer (some ⟨w1.heap.size, 0, none⟩)]] 76 (0, 0)), (wq.heap.size, Obj.cells #[.int .i64 (i : Int)] 3 (0, 0)), (wq.heap.size + 1, Obj.cells #[.string p.procs[i].name, .slice A6 p.procs[i].params.length c6, .int .u8 p.procs[i].body.kind, .int .i64 p.procs[i].body.num, .string p.procs[i].body.name, .slice A7 p.procs[i].body.kids.length c7] 32 (0, 0))] wt v5 ∧ L5.length ≤ L9.length + j)
              (fun s59 _ => p.procs[i].params.length - (intOf s59).toNat)
            case atStart => exact ⟨0, v9, L9, Nat.zero_le _, rfl, HR9.out, Mv.refl _ _ _, by simp, HB9.out, Nat.le_refl _⟩
            case round =>
              obtain ⟨wt, hwt0⟩ : ∃ x, x = wr := ⟨_, rfl⟩
              subst hwt0
              obtain ⟨j, v5, L5, hj, rfl, hR5, hM5, hL5, hB5, hLs5⟩ := hrel
              by_cases hjt : j < p.procs[i].params.length
              · have hvs5 := HR9.out.val hM5 HPS9.out
                obtain ⟨b5, off5, hA6, h50, h51, h52, hns⟩ := vd_at hvs5 j hjt
                have hic : j ≤ c6 := Nat.le_trans (Nat.le_of_lt hjt) (vd_cap hvs5)
                subst hA6
                have hP5 := hB5 (w.heap.size, _) List.mem_cons_self
                have hN5 := hB5 (w1.heap.size + 1, _) (List.mem_cons_of_mem _ List.mem_cons_self)
                have hI5 := hB5 (wq.heap.size, _) (List.mem_cons_of_mem _ (List.mem_cons_of_mem _ List.mem_cons_self))
                have hQ5 := hB5 (wq.heap.size + 1, _) (List.mem_cons_of_mem _ (List.mem_cons_of_mem _ (List.mem_cons_of_mem _ List.mem_cons_self)))
                have hbe := heap_alloc_new wt (.cells #[.string p.procs[i].params[j].name, .int .u8 p.procs[i].params[j].kind, .int .i64 p.procs[i].params[j].len] 34)
                have hbp5 := (Below.heap_alloc wt (.cells #[.string p.procs[i].params[j].name, .int .u8 p.procs[i].params[j].kind, .int .i64 p.procs[i].params[j].len] 34) _ (Array.getElem?_eq_some_iff.1 hP5.1).1).trans hP5.1
                have hbn5 := (Below.heap_alloc wt (.cells #[.string p.procs[i].params[j].name, .int .u8 p.procs[i].params[j].kind, .int .i64 p.procs[i].params[j].len] 34) _ (Array.getElem?_eq_some_iff.1 hN5.1).1).trans hN5.1
                have hbi5 := (Below.heap_alloc wt (.cells #[.string p.procs[i].params[j].name, .int .u8 p.procs[i].params[j].kind, .int .i64 p.procs[i].params[j].len] 34) _ (Array.getElem?_eq_some_iff.1 hI5.1).1).trans hI5.1
                have hbq5 := (Below.heap_alloc wt (.cells #[.string p.procs[i].params[j].name, .int .u8 p.procs[i].params[j].kind, .int .i64 p.procs[i].params[j].len] 34) _ (Array.getElem?_eq_some_iff.1 hQ5.1).1).trans hQ5.1
                have hwt := hM5.size
                have HR5 := Lib.hid hR5
                have HM5 := Lib.hid hM5
                have HB5 := Lib.hid hB5
                have HRA := Lib.hid (hR5.below ((Below.refl _ wt).alloc (Nat.le_refl _) (.cells #[.string p.procs[i].params[j].name, .int .u8 p.procs[i].params[j].kind, .int .i64 p.procs[i].params[j].len] 34)))
                have HTA := Lib.hid (vd_take (hR5.val (.of_below ((Below.refl _ wt).alloc (Nat.le_refl _) (.cells #[.string p.procs[i].params[j].name, .int .u8 p.procs[i].params[j].kind, .int .i64 p.procs[i].params[j].len] 34))) hvs5) j (by omega))
                have fr := cell_of_row _ _ 0 _ _ _ hbn5
                have fi := cell_of_row _ _ 0 _ _ _ hbi5
                obtain ⟨fq0, fq1, fq2, fq3, fq4, fq5⟩ := six_at hbq5
                have fe0 := cell_of_row _ _ 0 _ _ _ hbe
                have fe1 := cell_of_row _ _ 1 _ _ _ hbe
                have fe2 := cell_of_row _ _ 2 _ _ _ hbe
                clear hR5 hM5 hB5 hvs5 hP5 hN5 hI5 hQ5 hbe hbp5 hbn5 hbi5 hbq5
                go_wp2_with fail
                refine (wpIn_wide (n := 0)).1 (serial [11] hmo ?_)
                simp only [List.size_toArray, List.length_cons, List.length_nil, Nat.reduceAdd]
                refine takeL (via := []) (v := ?_) hfn (by kernel_rfl) (i := 0) rfl (by kernel_rfl) (wanted_none rfl) (fun w' hbk => ?_) ?_
                rotate_left
                · simp [execOp, go_sem, keepc hbk fr]; exact rfl
                simp only [Act.put, List.setIfInBounds_toArray, List.set_cons_succ, List.set_cons_zero]
                refine takeL (via := []) (v := ?_) hfn (by kernel_rfl) (i := 1) rfl (by kernel_rfl) (wanted_none rfl) (fun w' hbk => ?_) ?_
                rotate_left
                · simp [execOp, go_sem, keepc hbk fi]; exact rfl
                simp only [Act.put, List.setIfInBounds_toArray, List.set_cons_succ, List.set_cons_zero]
                refine takeF (v := ?_) hfn (by kernel_rfl) (i := 2) rfl (by kernel_rfl) (wanted_none rfl) (fun w' => ?_) ?_
                rotate_left
                · simp [execOp, go_sem]; exact rfl
                simp only [Act.put, List.setIfInBounds_toArray, List.set_cons_succ, List.set_cons_zero]
                refine takeL (via := []) (v := ?_) hfn (by kernel_rfl) (i := 3) rfl (by kernel_rfl) (wanted_none rfl) (fun w' hbk => ?_) ?_
                rotate_left
                · simp [execOp, go_sem, keepc hbk fe0]; exact rfl
                simp only [Act.put, List.setIfInBounds_toArray, List.set_cons_succ, List.set_cons_zero]
                refine takeF (v := ?_) hfn (by kernel_rfl) (i := 4) rfl (by kernel_rfl) (wanted_none rfl) (fun w' => ?_) ?_
                rotate_left
                · simp [execOp, go_sem]; exact rfl
                simp only [Act.put, List.setIfInBounds_toArray, List.set_cons_succ, List.set_cons_zero]
                refine takeL (via := [[11, 10, 7]]) (v := ?_) hfn (by kernel_rfl) (i := 5) rfl (by kernel_rfl) (wanted_none rfl) (fun w' hbk => ?_) ?_
                rotate_left
                · simp [execOp, go_sem, keepc hbk fq1]; exact rfl
                simp only [Act.put, List.setIfInBounds_toArray, List.set_cons_succ, List.set_cons_zero]
                refine takeF (v := ?_) hfn (by kernel_rfl) (i := 6) rfl (by kernel_rfl) (wanted_none rfl) (fun w' => ?_) ?_
                rotate_left
                · simp [execOp, go_sem]; exact rfl
                simp only [Act.put, List.setIfInBounds_toArray, List.set_cons_succ, List.set_cons_zero]
                refine takeF (v := ?_) hfn (by kernel_rfl) (i := 7) rfl (by kernel_rfl) (wanted_none rfl) (fun w' => ?_) ?_
                rotate_left
                · simp [execOp, go_sem, hic]; exact rfl
                simp only [Act.put, List.setIfInBounds_toArray, List.set_cons_succ, List.set_cons_zero]
                refine takeF (v := ?_) hfn (by kernel_rfl) (i := 8) rfl (by kernel_rfl) (wanted_none rfl) (fun w' => ?_) ?_
                rotate_left
                · simp [execOp, go_sem]; exact rfl
                simp only [Act.put, List.setIfInBounds_toArray, List.set_cons_succ, List.set_cons_zero]
                refine takeL (via := [[11, 10]]) (v := ?_) hfn (by kernel_rfl) (i := 9) rfl (by kernel_rfl) (wanted_none rfl) (fun w' hbk => ?_) ?_
                rotate_left
                · simp [execOp, go_sem, keepc hbk fe0]; exact rfl
                simp only [Act.put, List.setIfInBounds_toArray, List.set_cons_succ, List.set_cons_zero]
                refine runC (f := ?_) (args := ?_) hfn hdp (by kernel_rfl) (j := 10) rfl (by kernel_rfl) (wanted_none rfl) ?_ ?_
                rotate_left; rotate_left
                · simp [go_sem]; (refine And.intro ?_ ?_ <;> exact rfl)
                refine (callsIn_wide.2 (dcall (fresh_take p.procs[i].params j p.procs[i].params[j].name (by omega)) HRA.out.drew (vals_two_of (HRA.out.val (Mv.of_below (Below.refl _ _).drew) HTA.out) (val.of1 ⟨_, .str _ hns, rfl⟩)))).mono ?_
                rintro e w7 ⟨ve, rfl, hb7, hq7⟩
                obtain ⟨rfl, hei⟩ := val_int hq7
                refine ⟨_, rfl, fun _ => hb7, ?_⟩
                simp only [Act.put, List.setIfInBounds_toArray, List.set_cons_succ, List.set_cons_zero]
                refine runC (f := ?_) (args := ?_) hfn hdp (by kernel_rfl) (j := 11) rfl (by kernel_rfl) (wanted_none rfl) ?_ ?_
                rotate_left; rotate_left
                · simp [execOp, go_sem]; (refine And.intro ?_ ?_ <;> exact rfl)
                have hRy := HRA.out.drew.below hb7
                refine (callsIn_wide.2 (report_mem (pr := (i : Int)) (path := []) hRy hii hei hns (no_path (g := (okGh (Okv ok0 (w.heap.size) (w1.heap.size) w7 v5)))) (by simp) (by omega))).mono ?_
                rintro e w8 ⟨v8, ⟨u8, rfl⟩, ⟨hc8, ho8⟩, hM8⟩
                refine ⟨_, rfl, fun e => (by cases e), ?_⟩
                simp only [Act.put, List.setIfInBounds_toArray, List.set_cons_succ, List.set_cons_zero]
                refine doneK (by kernel_rfl) ?_
                have hMA : Mv (w1.heap.size) wt v5 w8 v8 := ((Mv.of_below ((Below.refl _ wt).alloc (Nat.le_refl _) (.cells #[.string p.procs[i].params[j].name, .int .u8 p.procs[i].params[j].kind, .int .i64 p.procs[i].params[j].len] 34))).trans ((Mv.of_below (Below.refl _ _).drew).trans (.of_below hb7))).trans hM8
                have HR8 : Hid (Rs ok0 (w.heap.size) (w1.heap.size) w8 v8 (L5 ++ rep i [] (freshE (p.procs[i].params.take j) p.procs[i].params[j].name) p.procs[i].params[j].name)) := Lib.hid ⟨hc8, ho8, HR5.out.old, HR5.out.le⟩
                have HM8 := Lib.hid (HM5.out.trans hMA)
                have HB8 := Lib.hid (HB5.out.mv hMA)
                clear hRy hb7 hq7 hM8 hMA hc8 ho8 fr fi fq0 fq1 fq2 fq3 fq4 fq5 fe0 fe1 fe2
                go_wp2_with fail
                go_roundw
                case rel => exact ⟨j + 1, v8, _, by omega, by go_num, HR8.out, HM8.out, by rw [← hL5, vrF_drop i false p.procs[i].params p.procs[i].params j hjt, List.append_assoc]; rfl, HB8.out, by have := rep_len i [] (freshE (p.procs[i].params.take j) p.procs[i].params[j].name) p.procs[i].params[j].name; rw [List.length_append]; omega⟩
                case measure => simp [intOf]; omega
              · obtain rfl : j = p.procs[i].params.length := by omega
                rw [List.drop_of_length_le (Nat.le_refl _)] at hL5
                simp only [vrF, List.append_nil] at hL5
                subst hL5
                have hP5 := (hB5 (w.heap.size, _) List.mem_cons_self).1
                have hQ5 := (hB5 (wq.heap.size + 1, _) (List.mem_cons_of_mem _ (List.mem_cons_of_mem _ (List.mem_cons_of_mem _ List.mem_cons_self)))).1
                obtain ⟨fp0, fp1, fp2, fp3, fp4, fp5⟩ := six_at hP5
                obtain ⟨fq0, fq1, fq2, fq3, fq4, fq5⟩ := six_at hQ5
                have HR5 := Lib.hid hR5
                have HM5 := Lib.hid (HM9.out.trans hM5)
                have HB5 := Lib.hid hB5
                have hvl := vrF_len i false p.procs[i].params p.procs[i].params 0
                have HPV := Lib.hid (HR0.out.val HM5.out HP2.out)
                have HPS5 := Lib.hid (HR9.out.val hM5 HPS9.out)
                have HBD5 := Lib.hid (HR9.out.val hM5 HBD9.out)
                clear hR5 hM5 hB5 hP5 hQ5
                go_wp2_with fail
                refine (visit_mem (by omega) (rep_48 (Rb := w1.heap.size + 1) (Ib := wq.heap.size) hii) p.procs[i].body.size p.procs[i].body (Nat.le_refl _) wt v5 _ [] p.procs[i].params _ _ _ _ HR5.out (HB5.out.sub (fun x hx => by simp only [List.mem_cons, List.not_mem_nil, or_false] at hx; rcases hx with rfl | rfl; exact (List.mem_cons_of_mem _ List.mem_cons_self); exact (List.mem_cons_of_mem _ (List.mem_cons_of_mem _ List.mem_cons_self)))) HPV.out HBD5.out (no_path) HPS5.out (by simp; omega) (by omega) (by rw [List.length_append]; omega)).mono ?_
                rintro e wu ⟨v6, ⟨u6, rfl⟩, hR6, hM6⟩
                have HR6 := Lib.hid hR6
                have HM6 := Lib.hid (HM5.out.trans hM6)
                have HB6 := Lib.hid (HB5.out.mv hM6)
                have hvl2 := visF_len p i p.procs[i].body [] p.procs[i].params
                clear hR6 hM6
                go_wp2_with fail
                go_roundw
                case rel => exact ⟨i + 1, v6, _, by omega, by go_num, HR6.out, HM6.out, by rw [← hL4, procsF_drop p p.procs i hqt]; have h9 := congrArg (fun x => x ++ procsF p (p.procs.drop (i + 1)) (i + 1)) HPF.out; simp only [List.append_assoc] at h9 ⊢; exact h9, HB6.out.sub (fun x hx => by simp only [List.mem_cons, List.not_mem_nil, or_false] at hx; rcases hx with rfl | rfl; exact List.mem_cons_self; exact (List.mem_cons_of_mem _ List.mem_cons_self)), by rw [List.length_append, List.length_append]; have := HL9.out; omega⟩
                case measure => simp [intOf]; omega
        · obtain ⟨wz, hwz0⟩ : ∃ x, x = wq := ⟨_, rfl⟩
          subst hwz0
          obtain rfl : i = p.procs.length := by omega
          rw [List.drop_of_length_le (Nat.le_refl _)] at hL4
          simp only [procsF, List.append_nil] at hL4
          subst hL4
          have hP5 := (hB4 (w.heap.size, _) List.mem_cons_self).1
          obtain ⟨fp0, fp1, fp2, fp3, fp4, fp5⟩ := six_at hP5
          have HR4 := Lib.hid hR4
          have HM4 := Lib.hid hM4
          have HB4 := Lib.hid hB4
          have HPV := Lib.hid (HR0.out.val hM4 HP2.out)
          have HV4 := Lib.hid (HR0.out.val hM4 HVS.out)
          have HN4 := Lib.hid (HR0.out.val hM4 HMN.out)
          have hpi : inr .i64 (p.procs.length : Int) := by constructor <;> simp [IntKind.min, IntKind.max, IntKind.bits, IntKind.signed] <;> omega
          clear hR4 hM4 hB4 hP5
          go_wp2_with fail
          refine (visit_mem (by omega) (rep_49 (Rb := w1.heap.size + 1) (Ib := w.heap.size) (A1 := A1) (A2 := A2) (A3 := A3) (c1 := c1) (c2 := c2) (c3 := c3) hpi) p.main.size p.main (Nat.le_refl _) wz v4 _ [] p.vars _ _ _ _ HR4.out (HB4.out.sub (fun x hx => by simp only [List.mem_cons, List.not_mem_nil, or_false] at hx ⊢; rcases hx with rfl | rfl; exact .inr rfl; exact .inl rfl)) HPV.out HN4.out (no_path) HV4.out (by simp; omega) (by omega) (by omega)).mono ?_
          rintro e wu ⟨v6, ⟨u6, rfl⟩, hR6, hM6⟩
          have hMZ := HM4.out.trans hM6
          have fo := cell_of_row _ _ 0 _ _ _ hR6.cell
          have hrow := hR6.row
          have hbz : Below w.heap.size ((w1.alloc (.cells #[.slice none 0 0] 40)).alloc (.cells #[.func (.func 44) #[] #[.pointer (some ⟨w1.heap.size, 0, none⟩)]] 76)) wu := ⟨hMZ.os, hMZ.tape, hMZ.output, hMZ.size, fun b hb => hMZ.block b (by simp; omega) (by omega) (by simp [Value.ownBlock])⟩
          have HROW := Lib.hid hrow
          have HBZ := Lib.hid (HBB.out.trans hbz)
          clear hR6 hM6 hMZ hrow hbz
          go_wp2_with fail
          go_ret
          exact ⟨_, w1.heap.size + 1, rfl, by omega, by unfold checkF; rw [← List.append_assoc]; exact HROW.out, HBZ.out⟩

end Go.Proofs.Ytjikokmhknnnoaa
