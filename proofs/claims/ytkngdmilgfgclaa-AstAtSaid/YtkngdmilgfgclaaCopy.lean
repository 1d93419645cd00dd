/- The reference's Copy: a copy in new memory. -/
import Derived.Test.YtkngdmilgfgclaaNodeSh
namespace Go.Proofs.Ytkngdmilgfgclaa
open Go.RowKit Go.Shelf

/-- a call that makes a new node: its row is the call's own -/
def MakesRow (t : Tr) (w : World) (e : Ending) (w' : World) : Prop :=
  ∃ base vr, e = .returned (.agg #[.int .u8 t.kind, .int .i64 t.num, .string t.name, vr]) ∧ w.heap.size ≤ base ∧ OwnS shNode 24 w' base vr t.kids ∧ Below w.heap.size w w'

set_option maxRecDepth 100000 in
set_option maxHeartbeats 3000000 in
theorem copy_both (t : Tr) : ∀ (v : Value) (w : World), Rep w w.heap.size t v → t.size ≤ 1000000 → Calls Try.prog 29 #[v] w (fun e w' => Makes t w e w' ∧ MakesRow t w e w') := by
  have hmo : Try.prog.follows .mixedOrders = true := by kernel_rfl
  have hfn : ∀ f, Fence.wide.fn f := fun _ => trivial
  have hdp : Fence.wide.depth.isSome = false := rfl
  induction t using Tr.ind with
  | h k n s c ih =>
    intro v w hr hsz
    simp only [Rep] at hr
    obtain ⟨A, cap, rfl, hf, hrow⟩ := hr
    have hl := hf.l1
    have hc := hf.c1
    have HF := Lib.hid hf
    have HR := Lib.hid hrow
    have IH := Lib.hid ih
    clear hrow ih hf
    unfold nodeV
    simp only [Tr.size] at hsz
    have hcl := Tr.length_le_sizes c
    go_enter Try.func29, Try.ntmps29
    go_wp2_with fail
    go_loopw [4] (fun s4 wr => ∃ (i : Nat) (v : Value), i ≤ c.length ∧ s4 = .int .i64 i ∧ OwnS shNode 24 wr (w.heap.size + 3) v (c.take i) ∧ wr.heap[w.heap.size + 2]? = some (.cells #[.int .u8 k, .int .i64 n, .string s, v] 24 (0, 0)) ∧
        Below (w.heap.size + 2) ((w.alloc (.cells #[.int .u8 k, .int .i64 n, .string s, .slice A c.length cap] 24)).alloc (.cells #[.int .u8 0, .int .i64 0, .string ⟨#[]⟩, .slice none 0 0] 24)) wr)
      (fun s4 _ => c.length - (intOf s4).toNat)
    case atStart =>
      refine ⟨0, _, Nat.zero_le _, rfl, OwnS.nil _ _, ?_, ?_⟩
      · have := heap_alloc_new ((w.alloc (.cells #[.int .u8 k, .int .i64 n, .string s, .slice A c.length cap] 24)).alloc (.cells #[.int .u8 0, .int .i64 0, .string ⟨#[]⟩, .slice none 0 0] 24)) (.cells #[.int .u8 k, .int .i64 n, .string s, .slice none 0 0] 24)
        simpa using this
      · exact (Below.refl _ _).alloc (by simp) _
    case round =>
      obtain ⟨i, v, hi, rfl, hown, hout, hb⟩ := hrel
      have hbb : Below w.heap.size w wr := (((Below.refl _ w).alloc (Nat.le_refl _) _).alloc (by simp) _).trans (hb.mono (by omega))
      have hsz3 : w.heap.size + 3 ≤ wr.heap.size := by have := (Array.getElem?_eq_some_iff.1 hout).1; omega
      obtain ⟨q1, q2⟩ := two_boxes hb
      have fk : wr.cell? ⟨w.heap.size, 3, none⟩ = some (.slice A c.length cap) := cell_of_row _ _ 3 _ _ _ q1
      have fo : wr.cell? ⟨w.heap.size + 2, 3, none⟩ = some v := cell_of_row _ _ 3 _ _ _ hout
      by_cases hlt : i < c.length
      · obtain ⟨b, off, A', cap', rfl, hbB, h0, h1, h2, h3, hk⟩ := (HR.out.below hbb).kid i hlt
        have hmem : c[i] ∈ c := List.getElem_mem hlt
        have hsz1 := Tr.size_le_of_mem hmem
        have HO := Lib.hid hown
        have HLT := Lib.hid hown.lt
        have HQ2 := Lib.hid q2
        have HOUT := Lib.hid hout
        have hlen1 : (c.take i).length + 1 ≤ 1000000 := by simp; omega
        clear hown q1 q2 hout
        go_wp2_with fail
        refine (wpIn_wide (n := 0)).1 (serial [9, 11] hmo ?_)
        simp only [List.size_toArray, List.length_cons, List.length_nil, Nat.reduceAdd]
        refine takeF (v := ?_) hfn (by kernel_rfl) (i := 0) rfl (by kernel_rfl) (wanted_none rfl) (fun w' => ?_) ?_
        rotate_left
        · simp [execOp, go_sem]; exact rfl
        simp only [Act.put, List.setIfInBounds_toArray, List.set_cons_succ, List.set_cons_zero]
        refine takeL (via := []) (v := ?_) hfn (by kernel_rfl) (i := 1) rfl (by kernel_rfl) (wanted_none rfl) (fun w' hbk => ?_) ?_
        rotate_left
        · simp [execOp, go_sem, keepc hbk fo]; exact rfl
        simp only [Act.put, List.setIfInBounds_toArray, List.set_cons_succ, List.set_cons_zero]
        refine takeF (v := ?_) hfn (by kernel_rfl) (i := 2) rfl (by kernel_rfl) (wanted_none rfl) (fun w' => ?_) ?_
        rotate_left
        · simp [execOp, go_sem]; exact rfl
        simp only [Act.put, List.setIfInBounds_toArray, List.set_cons_succ, List.set_cons_zero]
        refine takeL (via := [[9, 7, 6, 5]]) (v := ?_) hfn (by kernel_rfl) (i := 3) rfl (by kernel_rfl) (wanted_none rfl) (fun w' hbk => ?_) ?_
        rotate_left
        · simp [execOp, go_sem, keepc hbk fk]; exact rfl
        simp only [Act.put, List.setIfInBounds_toArray, List.set_cons_succ, List.set_cons_zero]
        refine takeF (v := ?_) hfn (by kernel_rfl) (i := 4) rfl (by kernel_rfl) (wanted_none rfl) (fun w' => ?_) ?_
        rotate_left
        · simp [execOp, go_sem]; exact rfl
        simp only [Act.put, List.setIfInBounds_toArray, List.set_cons_succ, List.set_cons_zero]
        refine takeF (v := ?_) hfn (by kernel_rfl) (i := 5) rfl (by kernel_rfl) (wanted_none rfl) (fun w' => ?_) ?_
        rotate_left
        · simp [execOp, go_sem, hlt]; exact rfl
        simp only [Act.put, List.setIfInBounds_toArray, List.set_cons_succ, List.set_cons_zero]
        refine takeL (via := [[9, 7]]) (v := ?_) hfn (by kernel_rfl) (i := 6) rfl (by kernel_rfl) (wanted_none rfl) (fun w' hbk => ?_) ?_
        rotate_left
        · simp [execOp, go_sem, keepc hbk h0, keepc hbk h1, keepc hbk h2, keepc hbk h3]; exact rfl
        simp only [Act.put, List.setIfInBounds_toArray, List.set_cons_succ, List.set_cons_zero]
        refine runC (f := ?_) (args := ?_) hfn hdp (by kernel_rfl) (j := 7) rfl (by kernel_rfl) (wanted_none rfl) ?_ ?_
        rotate_left; rotate_left
        · simp [go_sem]; (refine And.intro ?_ ?_ <;> exact rfl)
        refine (callsIn_wide.2 (IH.out _ hmem _ _ (hk.at_ hbb.size (Below.refl _ wr).drew) (by omega))).mono ?_
        rintro e w1 ⟨⟨v1, rfl, hr1, hb1⟩, -⟩
        obtain ⟨A1, cap1, rfl, hf1, _⟩ := nodeOf hr1
        unfold nodeV at *
        refine ⟨_, rfl, fun _ => hb1, ?_⟩
        simp only [Act.put, List.setIfInBounds_toArray, List.set_cons_succ, List.set_cons_zero]
        refine runV (v := ?_) (w1 := ?_) hfn (by kernel_rfl) (j := 8) rfl (by kernel_rfl) (wanted_none rfl) ?_ (fun _ => ?_) ?_
        rotate_left; rotate_left
        · simp [execOp, go_sem]; (refine And.intro ?_ ?_ <;> exact rfl)
        · exact (Below.refl _ _).alloc (Nat.le_refl _) _
        intro hb8
        simp only [Act.put, List.setIfInBounds_toArray, List.set_cons_succ, List.set_cons_zero]
        have hs1 := hb1.size
        replace hs1 : wr.heap.size ≤ w1.heap.size := hs1
        obtain ⟨v2, w2, hrun, hO2, hg2, hat2⟩ := append_node (ty := 22) (g := w1.heap.size) ((HO.out.drew.below hb1).below (hb8 rfl)) (heap_alloc_new w1 _) (t := c[i]) (RepP.keep (fun b hb' => ⟨Nat.le_trans hsz3 hb'.1, by have := hb'.2; simp; omega, fun e => by have := (HLT.out b e).2; have : wr.heap.size ≤ b := hb'.1; omega⟩) (fun b o hb' => World.cell?_alloc_lt w1 _ ⟨b, o, none⟩ hb'.2) _ hr1) hlen1 (by simp; omega)
        refine runV hfn (by kernel_rfl) (j := 9) rfl (by kernel_rfl) (wanted_none rfl) (exec_append rfl hrun) (fun e => by cases e) (fun _ => ?_)
        simp only [Act.put, List.setIfInBounds_toArray, List.set_cons_succ, List.set_cons_zero]
        obtain ⟨A2, n2, cap2, hv2⟩ : ∃ (A : Option Addr) (n cap : Nat), v2 = .slice A n cap := by obtain ⟨A2, cap2, hv2, _⟩ := hO2.slice; exact ⟨_, _, _, hv2⟩
        subst hv2
        have hcells : w2.heap[w.heap.size + 2]? = some (.cells #[.int .u8 k, .int .i64 n, .string s, v] 24 (0, 0)) := (hg2.block _ (by simp; omega) (fun e => by have := (HLT.out _ e.symm).1; omega)).trans (((hb8 rfl).block _ (by omega)).trans ((hb1.block _ (show w.heap.size + 2 < wr.heap.size by omega)).trans HOUT.out))
        have fo2 : w2.cell? ⟨w.heap.size + 2, 3, none⟩ = some v := cell_of_row _ _ 3 _ _ _ hcells
        have ff2 := frozen_of_row _ _ 3 _ _ hcells
        refine takeF (v := ?_) hfn (by kernel_rfl) (i := 10) rfl (by kernel_rfl) (wanted_none rfl) (fun w' => ?_) ?_
        rotate_left
        · simp [execOp, go_sem]; exact rfl
        simp only [Act.put, List.setIfInBounds_toArray, List.set_cons_succ, List.set_cons_zero]
        refine runS hfn (by kernel_rfl) (j := 11) rfl (by kernel_rfl) (wanted_none rfl) (by simp [execOp, go_sem, fo2, ff2]; exact rfl) (fun e => by cases e) ?_
        simp only [Act.put]
        refine doneK (by kernel_rfl) ?_
        go_wp2_with fail
        have HT := Lib.hid (Tr.take_snoc c i hlt)
        rw [← HT.out] at hO2
        have hbx : Below (w.heap.size + 2) wr w2 := ((((Below.refl _ wr).drew).trans (hb1.mono (show w.heap.size + 2 ≤ wr.heap.size by omega))).trans ((hb8 rfl).mono (by omega))).grown hg2 (by simp; omega) (fun g e => by have := (HLT.out g e).1; omega)
        have hby := hb.trans hbx
        go_roundw
        case rel => exact ⟨i + 1, _, by omega, by go_num, hO2.setCell (by simp) _, heap_setCell_same _ _ 3 _ _ _ hcells, hby.setCell (by simp) _⟩
        case measure => simp [intOf]; omega
      · obtain rfl : i = c.length := by omega
        rw [List.take_length] at hown
        obtain ⟨A2, cap2, rfl, hcap2, hcm2, hrow2⟩ := hown.slice.row
        obtain ⟨p0, p1, p2, p3⟩ := four_at hout
        obtain ⟨r0, r1, r2, r3⟩ := four_at q2
        have rf := fun j => frozen_of_row wr _ j _ _ q2
        have HROW2 := Lib.hid hrow2
        have HOWN := Lib.hid hown
        have Q2 := Lib.hid q2
        clear hown hrow2 q1 q2 hout
        go_wp2_with fail
        refine ret_node rfl rfl (set4 _ _ _ _ Q2.out) rfl ⟨⟨_, rfl, ?_, ?_⟩, w.heap.size + 3, _, rfl, by omega, ((((HOWN.out.setCell (by simp) _).setCell (by simp) _).setCell (by simp) _).setCell (by simp) _), ?_⟩
        · simp only [RepP]
          refine ⟨A2, cap2, rfl, ⟨HF.out.k0, HF.out.k1, HF.out.n0, HF.out.n1, HF.out.s1, hcap2, hcm2⟩, RowP.keep (fun b hb' => ⟨by omega, by simp [World.setCell]; omega⟩) (fun b o hb' => ?_) c HROW2.out⟩
          exact World.cell?_of_block ((heap_setCell_other _ _ _ _ (by simp; omega)).trans ((heap_setCell_other _ _ _ _ (by simp; omega)).trans ((heap_setCell_other _ _ _ _ (by simp; omega)).trans (heap_setCell_other _ _ _ _ (by simp; omega)))))
        · exact (((hbb.setCell (by simp) _).setCell (by simp) _).setCell (by simp) _).setCell (by simp) _
        · exact (((hbb.setCell (by simp) _).setCell (by simp) _).setCell (by simp) _).setCell (by simp) _
theorem copy_any (t : Tr) (v : Value) (w : World) (h : Rep w w.heap.size t v) (hs : t.size ≤ 1000000) : Calls Try.prog 29 #[v] w (Makes t w) := (copy_both t v w h hs).mono fun _ _ q => q.1
theorem copy_row (t : Tr) (v : Value) (w : World) (h : Rep w w.heap.size t v) (hs : t.size ≤ 1000000) : Calls Try.prog 29 #[v] w (MakesRow t w) := (copy_both t v w h hs).mono fun _ _ q => q.2

end Go.Proofs.Ytkngdmilgfgclaa
