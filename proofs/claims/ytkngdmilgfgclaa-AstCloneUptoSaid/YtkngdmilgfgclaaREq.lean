/- The reference's equality of trees. -/
import Derived.Test.YtkngdmilgfgclaaEq
import Derived.Test.YtkngdmilgfgclaaRegion2
import Derived.Test.YtkngdmilgfgclaaClone
namespace Go.Proofs.Ytkngdmilgfgclaa
open Go.RowKit Go.Shelf

set_option maxRecDepth 100000 in
set_option maxHeartbeats 2000000 in
theorem rEqual_any (a : Tr) : ∀ b, Tests2 26 eqB a b := by
  have hmo : Try.prog.follows .mixedOrders = true := by kernel_rfl
  induction a using Tr.ind with
  | h k n s c ih =>
  intro b
  cases b with
  | mk k' n' s' d =>
  intro v u w hr hr2
  simp only [Rep] at hr hr2
  obtain ⟨A, cap, rfl, hf, hrow⟩ := hr
  obtain ⟨A2, cap2, rfl, hf2, hrow2⟩ := hr2
  unfold nodeV
  have l1 := hf.l1
  have l2 := hf.c1
  have l3 := hf2.l1
  have l4 := hf2.c1
  have HR := Lib.hid hrow
  have HR2 := Lib.hid hrow2
  have HI := Lib.hid ih
  clear hrow hrow2 ih hf hf2
  cases hk : (k != k')
  case true =>
    have HK := Lib.hid hk
    go_enter Try.func26, Try.ntmps26
    go_wp2_with fail
    go_ret
    exact ⟨by simp [eqB, show (k == k') = false by simpa using hk], ((Below.refl _ _).alloc (Nat.le_refl _) _).alloc (by simp) _⟩
  case false =>
  cases hn : (n != n')
  case true =>
    go_enter Try.func26, Try.ntmps26
    go_wp2_with fail
    go_ret
    exact ⟨by simp [eqB, show (n == n') = false by simpa using hn], ((Below.refl _ _).alloc (Nat.le_refl _) _).alloc (by simp) _⟩
  case false =>
  cases hs : (s.toList == s'.toList)
  case false =>
    go_enter Try.func26, Try.ntmps26
    go_wp2_with fail
    go_ret
    exact ⟨by simp [eqB, hs], ((Below.refl _ _).alloc (Nat.le_refl _) _).alloc (by simp) _⟩
  case true =>
  by_cases hlen : c.length = d.length
  case neg =>
    have hne : ((c.length : Int) != (d.length : Int)) = true := by simp; omega
    have HL := Lib.hid hlen
    clear hlen
    go_enter Try.func26, Try.ntmps26
    go_wp2_with fail
    go_ret
    exact ⟨by simp [eqB, eqsB_len HL.out], ((Below.refl _ _).alloc (Nat.le_refl _) _).alloc (by simp) _⟩
  case pos =>
    have hne : ((c.length : Int) != (d.length : Int)) = false := by simp [hlen]
    have HL := Lib.hid hlen
    have hle1 : c.length ≤ d.length := by omega
    clear hlen
    go_enter Try.func26, Try.ntmps26
    go_wp2_with fail
    go_loopw [5] (fun i wr => ∃ q : Nat, q ≤ c.length ∧ i = .int .i64 q ∧ Hid (∀ (j : Nat) (h : j < c.length) (h' : j < d.length), j < q → eqB c[j] d[j] = true) ∧ Below (w.heap.size + 2) ((w.alloc (.cells #[.int .u8 k, .int .i64 n, .string s, .slice A c.length cap] 24)).alloc (.cells #[.int .u8 k', .int .i64 n', .string s', .slice A2 d.length cap2] 24)) wr) (fun i _ => c.length - (intOf i).toNat)
    case atStart => exact ⟨0, Nat.zero_le _, rfl, fun j _ _ h => absurd h (Nat.not_lt_zero _), Below.refl _ _⟩
    case round =>
      obtain ⟨i, hi, rfl, hall, hbw⟩ := hrel
      have hbb : Below w.heap.size w wr := (((Below.refl _ _).alloc (Nat.le_refl _) _).alloc (by simp) _).trans (hbw.mono (by omega))
      have hws := hbw.size
      simp only [World.size_alloc] at hws
      obtain ⟨bx1, bx2⟩ := two_boxes hbw
      have x3 : wr.cell? ⟨w.heap.size, 3, none⟩ = some (.slice A c.length cap) := cell_of_row _ _ 3 _ _ _ bx1
      have z3 : wr.cell? ⟨w.heap.size + 1, 3, none⟩ = some (.slice A2 d.length cap2) := cell_of_row _ _ 3 _ _ _ bx2
      by_cases hlt : i < c.length
      · have hlt2 : i < d.length := by omega
        obtain ⟨b, off, A', cap', rfl, hbB, ra, rb, rc, rd, hk1⟩ := (HR.out.below hbb).kid i hlt
        obtain ⟨b', off', A'', cap'', rfl, hbB', ga, gb, gc, gd, hk2⟩ := (HR2.out.below hbb).kid i hlt2
        have HT := Lib.hid (HI.out c[i] (List.getElem_mem hlt) d[i])
        have HK := Lib.hid (hk1.more hbb.size)
        have HK2 := Lib.hid (hk2.more hbb.size)
        clear hk1 hk2
        cases hp : eqB c[i] d[i]
        case false =>
          have HP := Lib.hid hp
          clear hp
          go_wp2_with fail
          refine wpIn_wide (n := 0) |>.1 (region_all (N := 12) (s := fun i => 41 + i) hmo rfl (by kernel_rfl) (fun V => Below wr.heap.size wr V) (Specs ([.is (.pointer (some ⟨w.heap.size, 3, none⟩)), .is (.slice (some ⟨b, off, none⟩) c.length cap), .is (.int .i64 (i : Int)), .is (.pointer (some ⟨b, off + i * 4, none⟩)), .is (.agg #[.int .u8 c[i].kind, .int .i64 c[i].num, .string c[i].name, .slice A' c[i].kids.length cap']), .is (.pointer (some ⟨w.heap.size + 1, 3, none⟩)), .is (.slice (some ⟨b', off', none⟩) d.length cap2), .is (.int .i64 (i : Int)), .is ((.pointer (some ⟨b', off' + i * 4, none⟩))), .is (.agg #[.int .u8 d[i].kind, .int .i64 d[i].num, .string d[i].name, .slice A'' d[i].kids.length cap'']), .is (.bool false), .is (.bool true)])) (by intro j hj; simp; omega) (by intro i j _ _ e; simp at e; omega) (Below.refl _ wr).drew ?steps ?fin)
          case steps =>
            show AllFrom _ 0 (_ :: _)
            refine AllFrom.cons (fun listed a2 V h hi hd => ?_) ?_
            · have f2 : a2.tmps[2]? = some (.pointer (some ⟨w.heap.size, 0, none⟩)) := h.fixed 2 (by intro j hj; skip; simp; omega)
              exact RInv.pure (v := .pointer (some ⟨w.heap.size, 3, none⟩)) h hi rfl (wanted_none rfl) (fun _ => trivial) (by intro c; simp) (by simp [execOp, f2, go_sem]) rfl
            refine AllFrom.cons (fun listed a2 V h hi hd => ?_) ?_
            · obtain ⟨u0, h0, e0⟩ := hd ⟨0, .data⟩ (by simp) rfl
              replace e0 : u0 = .pointer (some ⟨w.heap.size, 3, none⟩) := e0
              subst e0
              replace h0 : a2.tmps[41]? = some _ := h0
              have kc := (h.cw.cell (p := ⟨w.heap.size, 3, none⟩) (show w.heap.size < wr.heap.size by omega)).trans x3
              exact RInv.pure (v := .slice (some ⟨b, off, none⟩) c.length cap) h hi rfl (wanted_none rfl) (fun _ => trivial) (by intro c; simp) (by simp [execOp, h0, kc, go_sem]) rfl
            refine AllFrom.cons (fun listed a2 V h hi hd => ?_) ?_
            · have f5 : a2.tmps[5]? = some (.int .i64 (i : Int)) := h.fixed 5 (by intro j hj; skip; simp; omega)
              exact RInv.pure (v := .int .i64 (i : Int)) h hi rfl (wanted_none rfl) (fun _ => trivial) (by intro c; simp) (by simp [execOp, f5, go_sem]) rfl
            refine AllFrom.cons (fun listed a2 V h hi hd => ?_) ?_
            · obtain ⟨u1, h1, e1⟩ := hd ⟨1, .data⟩ (by simp) rfl
              replace e1 : u1 = .slice (some ⟨b, off, none⟩) c.length cap := e1
              subst e1
              replace h1 : a2.tmps[42]? = some _ := h1
              obtain ⟨u2, h2, e2⟩ := hd ⟨2, .data⟩ (by simp) rfl
              replace e2 : u2 = .int .i64 (i : Int) := e2
              subst e2
              replace h2 : a2.tmps[43]? = some _ := h2
              exact RInv.pure (v := .pointer (some ⟨b, off + i * 4, none⟩)) h hi rfl (wanted_none rfl) (fun _ => trivial) (by intro c; simp) (by simp [execOp, h1, h2, hlt, go_sem]) rfl
            refine AllFrom.cons (fun listed a2 V h hi hd => ?_) ?_
            · obtain ⟨u3, h3, e3⟩ := hd ⟨3, .data⟩ (by simp) rfl
              replace e3 : u3 = .pointer (some ⟨b, off + i * 4, none⟩) := e3
              subst e3
              replace h3 : a2.tmps[44]? = some _ := h3
              have kc0 := (h.cw.cell (p := ⟨b, off + i * 4, none⟩) (show b < wr.heap.size by omega)).trans ra
              have kc1 := (h.cw.cell (p := ⟨b, off + i * 4 + 1, none⟩) (show b < wr.heap.size by omega)).trans rb
              have kc2 := (h.cw.cell (p := ⟨b, off + i * 4 + 2, none⟩) (show b < wr.heap.size by omega)).trans rc
              have kc3 := (h.cw.cell (p := ⟨b, off + i * 4 + 3, none⟩) (show b < wr.heap.size by omega)).trans rd
              exact RInv.pure (v := .agg #[.int .u8 c[i].kind, .int .i64 c[i].num, .string c[i].name, .slice A' c[i].kids.length cap']) h hi rfl (wanted_none rfl) (fun _ => trivial) (by intro c; simp) (by simp [execOp, h3, kc0, kc1, kc2, kc3, go_sem]) rfl
            refine AllFrom.cons (fun listed a2 V h hi hd => ?_) ?_
            · have f3 : a2.tmps[3]? = some (.pointer (some ⟨w.heap.size + 1, 0, none⟩)) := h.fixed 3 (by intro j hj; skip; simp; omega)
              exact RInv.pure (v := .pointer (some ⟨w.heap.size + 1, 3, none⟩)) h hi rfl (wanted_none rfl) (fun _ => trivial) (by intro c; simp) (by simp [execOp, f3, go_sem]) rfl
            refine AllFrom.cons (fun listed a2 V h hi hd => ?_) ?_
            · obtain ⟨u5, h5, e5⟩ := hd ⟨5, .data⟩ (by simp) rfl
              replace e5 : u5 = .pointer (some ⟨w.heap.size + 1, 3, none⟩) := e5
              subst e5
              replace h5 : a2.tmps[46]? = some _ := h5
              have kc := (h.cw.cell (p := ⟨w.heap.size + 1, 3, none⟩) (show w.heap.size + 1 < wr.heap.size by omega)).trans z3
              exact RInv.pure (v := .slice (some ⟨b', off', none⟩) d.length cap2) h hi rfl (wanted_none rfl) (fun _ => trivial) (by intro c; simp) (by simp [execOp, h5, kc, go_sem]) rfl
            refine AllFrom.cons (fun listed a2 V h hi hd => ?_) ?_
            · have f5 : a2.tmps[5]? = some (.int .i64 (i : Int)) := h.fixed 5 (by intro j hj; skip; simp; omega)
              exact RInv.pure (v := .int .i64 (i : Int)) h hi rfl (wanted_none rfl) (fun _ => trivial) (by intro c; simp) (by simp [execOp, f5, go_sem]) rfl
            refine AllFrom.cons (fun listed a2 V h hi hd => ?_) ?_
            · obtain ⟨u6, h6, e6⟩ := hd ⟨6, .data⟩ (by simp) rfl
              replace e6 : u6 = .slice (some ⟨b', off', none⟩) d.length cap2 := e6
              subst e6
              replace h6 : a2.tmps[47]? = some _ := h6
              obtain ⟨u7, h7, e7⟩ := hd ⟨7, .data⟩ (by simp) rfl
              replace e7 : u7 = .int .i64 (i : Int) := e7
              subst e7
              replace h7 : a2.tmps[48]? = some _ := h7
              exact RInv.pure (v := (.pointer (some ⟨b', off' + i * 4, none⟩))) h hi rfl (wanted_none rfl) (fun _ => trivial) (by intro c; simp) (by simp [execOp, h6, h7, hlt2, go_sem]) rfl
            refine AllFrom.cons (fun listed a2 V h hi hd => ?_) ?_
            · obtain ⟨u8, h8, e8⟩ := hd ⟨8, .data⟩ (by simp) rfl
              replace e8 : u8 = (.pointer (some ⟨b', off' + i * 4, none⟩)) := e8
              subst e8
              replace h8 : a2.tmps[49]? = some _ := h8
              have kc0 := (h.cw.cell (p := ⟨b', off' + i * 4, none⟩) (show b' < wr.heap.size by omega)).trans ga
              have kc1 := (h.cw.cell (p := ⟨b', off' + i * 4 + 1, none⟩) (show b' < wr.heap.size by omega)).trans gb
              have kc2 := (h.cw.cell (p := ⟨b', off' + i * 4 + 2, none⟩) (show b' < wr.heap.size by omega)).trans gc
              have kc3 := (h.cw.cell (p := ⟨b', off' + i * 4 + 3, none⟩) (show b' < wr.heap.size by omega)).trans gd
              exact RInv.pure (v := .agg #[.int .u8 d[i].kind, .int .i64 d[i].num, .string d[i].name, .slice A'' d[i].kids.length cap'']) h hi rfl (wanted_none rfl) (fun _ => trivial) (by intro c; simp) (by simp [execOp, h8, kc0, kc1, kc2, kc3, go_sem]) rfl
            refine AllFrom.cons (fun listed a2 V h hi hd => ?_) ?_
            · obtain ⟨u4, h4, e4⟩ := hd ⟨4, .data⟩ (by simp) rfl
              replace e4 : u4 = .agg #[.int .u8 c[i].kind, .int .i64 c[i].num, .string c[i].name, .slice A' c[i].kids.length cap'] := e4
              subst e4
              replace h4 : a2.tmps[45]? = some _ := h4
              obtain ⟨u9, h9, e9⟩ := hd ⟨9, .data⟩ (by simp) rfl
              replace e9 : u9 = .agg #[.int .u8 d[i].kind, .int .i64 d[i].num, .string d[i].name, .slice A'' d[i].kids.length cap''] := e9
              subst e9
              replace h9 : a2.tmps[50]? = some _ := h9
              refine RInv.enter (f := 26) (args := #[.agg #[.int .u8 c[i].kind, .int .i64 c[i].num, .string c[i].name, .slice A' c[i].kids.length cap'], .agg #[.int .u8 d[i].kind, .int .i64 d[i].num, .string d[i].name, .slice A'' d[i].kids.length cap'']]) h hi rfl (wanted_none rfl) (fun _ => trivial) (by intro c; simp) rfl (by simp [execOp, h4, h9, go_sem]) ?_
              refine (callsIn_wide.2 (HT.out _ _ _ (HK.out.at_ (Nat.le_refl _) h.cw) (HK2.out.at_ (Nat.le_refl _) h.cw))).mono ?_
              rw [HP.out]
              rintro e V2 ⟨rfl, hq1⟩
              exact ⟨_, rfl, h.cw.trans (hq1.mono h.cw.size), Specs.mono hq1, rfl⟩
            refine AllFrom.cons (fun listed a2 V h hi hd => ?_) ?_
            · obtain ⟨u10, h10, e10⟩ := hd ⟨10, .data⟩ (by simp) rfl
              replace e10 : u10 = .bool false := e10
              subst e10
              replace h10 : a2.tmps[51]? = some _ := h10
              exact RInv.pure (v := .bool true) h hi rfl (wanted_none rfl) (fun _ => trivial) (by intro c; simp) (by simp [execOp, h10, go_sem]) rfl
            exact trivial
          case fin =>
            rintro a2 V hV hs hdf hfx hph
            obtain ⟨u11, h11, e11⟩ := hph 11 (by omega)
            replace e11 : u11 = .bool true := e11
            subst e11
            replace h11 : a2.tmps[52]? = some _ := h11
            obtain ⟨tm, df⟩ := a2
            have hdf1 : df = [] := hdf
            subst hdf1
            have htm := tm_sets [41, 42, 43, 44, 45, 46, 47, 48, 49, 50, 51, 52] hs (fun t ht => hfx t (fun j hj e => ht (e ▸ (show ∀ j, j < 12 → (fun i => 41 + i) j ∈ [41, 42, 43, 44, 45, 46, 47, 48, 49, 50, 51, 52] by decide) j hj)))
            simp only [List.foldl_cons, List.foldl_nil, List.setIfInBounds_toArray, List.set_cons_succ, List.set_cons_zero] at htm
            rw [show tm.getD 52 undef = .bool true from by simp only [Array.getD_eq_getD_getElem?, h11, Option.getD_some]] at htm
            clear hs hdf hfx hph h11
            generalize tm.getD 41 undef = y41 at htm
            generalize tm.getD 42 undef = y42 at htm
            generalize tm.getD 43 undef = y43 at htm
            generalize tm.getD 44 undef = y44 at htm
            generalize tm.getD 45 undef = y45 at htm
            generalize tm.getD 46 undef = y46 at htm
            generalize tm.getD 47 undef = y47 at htm
            generalize tm.getD 48 undef = y48 at htm
            generalize tm.getD 49 undef = y49 at htm
            generalize tm.getD 50 undef = y50 at htm
            generalize tm.getD 51 undef = y51 at htm
            subst htm
            have HV := Lib.hid hV
            clear hV
            go_wp2_with fail
            go_ret
            exact ⟨by simp [eqB, eqsB_not i hlt hlt2 HP.out], hbb.trans (HV.out.mono (by omega))⟩
        case true =>
          have HP := Lib.hid hp
          clear hp
          go_wp2_with fail
          refine wpIn_wide (n := 0) |>.1 (region_all (N := 12) (s := fun i => 41 + i) hmo rfl (by kernel_rfl) (fun V => Below wr.heap.size wr V) (Specs ([.is (.pointer (some ⟨w.heap.size, 3, none⟩)), .is (.slice (some ⟨b, off, none⟩) c.length cap), .is (.int .i64 (i : Int)), .is (.pointer (some ⟨b, off + i * 4, none⟩)), .is (.agg #[.int .u8 c[i].kind, .int .i64 c[i].num, .string c[i].name, .slice A' c[i].kids.length cap']), .is (.pointer (some ⟨w.heap.size + 1, 3, none⟩)), .is (.slice (some ⟨b', off', none⟩) d.length cap2), .is (.int .i64 (i : Int)), .is ((.pointer (some ⟨b', off' + i * 4, none⟩))), .is (.agg #[.int .u8 d[i].kind, .int .i64 d[i].num, .string d[i].name, .slice A'' d[i].kids.length cap'']), .is (.bool true), .is (.bool false)])) (by intro j hj; simp; omega) (by intro i j _ _ e; simp at e; omega) (Below.refl _ wr).drew ?steps ?fin)
          case steps =>
            show AllFrom _ 0 (_ :: _)
            refine AllFrom.cons (fun listed a2 V h hi hd => ?_) ?_
            · have f2 : a2.tmps[2]? = some (.pointer (some ⟨w.heap.size, 0, none⟩)) := h.fixed 2 (by intro j hj; skip; simp; omega)
              exact RInv.pure (v := .pointer (some ⟨w.heap.size, 3, none⟩)) h hi rfl (wanted_none rfl) (fun _ => trivial) (by intro c; simp) (by simp [execOp, f2, go_sem]) rfl
            refine AllFrom.cons (fun listed a2 V h hi hd => ?_) ?_
            · obtain ⟨u0, h0, e0⟩ := hd ⟨0, .data⟩ (by simp) rfl
              replace e0 : u0 = .pointer (some ⟨w.heap.size, 3, none⟩) := e0
              subst e0
              replace h0 : a2.tmps[41]? = some _ := h0
              have kc := (h.cw.cell (p := ⟨w.heap.size, 3, none⟩) (show w.heap.size < wr.heap.size by omega)).trans x3
              exact RInv.pure (v := .slice (some ⟨b, off, none⟩) c.length cap) h hi rfl (wanted_none rfl) (fun _ => trivial) (by intro c; simp) (by simp [execOp, h0, kc, go_sem]) rfl
            refine AllFrom.cons (fun listed a2 V h hi hd => ?_) ?_
            · have f5 : a2.tmps[5]? = some (.int .i64 (i : Int)) := h.fixed 5 (by intro j hj; skip; simp; omega)
              exact RInv.pure (v := .int .i64 (i : Int)) h hi rfl (wanted_none rfl) (fun _ => trivial) (by intro c; simp) (by simp [execOp, f5, go_sem]) rfl
            refine AllFrom.cons (fun listed a2 V h hi hd => ?_) ?_
            · obtain ⟨u1, h1, e1⟩ := hd ⟨1, .data⟩ (by simp) rfl
              replace e1 : u1 = .slice (some ⟨b, off, none⟩) c.length cap := e1
              subst e1
              replace h1 : a2.tmps[42]? = some _ := h1
              obtain ⟨u2, h2, e2⟩ := hd ⟨2, .data⟩ (by simp) rfl
              replace e2 : u2 = .int .i64 (i : Int) := e2
              subst e2
              replace h2 : a2.tmps[43]? = some _ := h2
              exact RInv.pure (v := .pointer (some ⟨b, off + i * 4, none⟩)) h hi rfl (wanted_none rfl) (fun _ => trivial) (by intro c; simp) (by simp [execOp, h1, h2, hlt, go_sem]) rfl
            refine AllFrom.cons (fun listed a2 V h hi hd => ?_) ?_
            · obtain ⟨u3, h3, e3⟩ := hd ⟨3, .data⟩ (by simp) rfl
              replace e3 : u3 = .pointer (some ⟨b, off + i * 4, none⟩) := e3
              subst e3
              replace h3 : a2.tmps[44]? = some _ := h3
              have kc0 := (h.cw.cell (p := ⟨b, off + i * 4, none⟩) (show b < wr.heap.size by omega)).trans ra
              have kc1 := (h.cw.cell (p := ⟨b, off + i * 4 + 1, none⟩) (show b < wr.heap.size by omega)).trans rb
              have kc2 := (h.cw.cell (p := ⟨b, off + i * 4 + 2, none⟩) (show b < wr.heap.size by omega)).trans rc
              have kc3 := (h.cw.cell (p := ⟨b, off + i * 4 + 3, none⟩) (show b < wr.heap.size by omega)).trans rd
              exact RInv.pure (v := .agg #[.int .u8 c[i].kind, .int .i64 c[i].num, .string c[i].name, .slice A' c[i].kids.length cap']) h hi rfl (wanted_none rfl) (fun _ => trivial) (by intro c; simp) (by simp [execOp, h3, kc0, kc1, kc2, kc3, go_sem]) rfl
            refine AllFrom.cons (fun listed a2 V h hi hd => ?_) ?_
            · have f3 : a2.tmps[3]? = some (.pointer (some ⟨w.heap.size + 1, 0, none⟩)) := h.fixed 3 (by intro j hj; skip; simp; omega)
              exact RInv.pure (v := .pointer (some ⟨w.heap.size + 1, 3, none⟩)) h hi rfl (wanted_none rfl) (fun _ => trivial) (by intro c; simp) (by simp [execOp, f3, go_sem]) rfl
            refine AllFrom.cons (fun listed a2 V h hi hd => ?_) ?_
            · obtain ⟨u5, h5, e5⟩ := hd ⟨5, .data⟩ (by simp) rfl
              replace e5 : u5 = .pointer (some ⟨w.heap.size + 1, 3, none⟩) := e5
              subst e5
              replace h5 : a2.tmps[46]? = some _ := h5
              have kc := (h.cw.cell (p := ⟨w.heap.size + 1, 3, none⟩) (show w.heap.size + 1 < wr.heap.size by omega)).trans z3
              exact RInv.pure (v := .slice (some ⟨b', off', none⟩) d.length cap2) h hi rfl (wanted_none rfl) (fun _ => trivial) (by intro c; simp) (by simp [execOp, h5, kc, go_sem]) rfl
            refine AllFrom.cons (fun listed a2 V h hi hd => ?_) ?_
            · have f5 : a2.tmps[5]? = some (.int .i64 (i : Int)) := h.fixed 5 (by intro j hj; skip; simp; omega)
              exact RInv.pure (v := .int .i64 (i : Int)) h hi rfl (wanted_none rfl) (fun _ => trivial) (by intro c; simp) (by simp [execOp, f5, go_sem]) rfl
            refine AllFrom.cons (fun listed a2 V h hi hd => ?_) ?_
            · obtain ⟨u6, h6, e6⟩ := hd ⟨6, .data⟩ (by simp) rfl
              replace e6 : u6 = .slice (some ⟨b', off', none⟩) d.length cap2 := e6
              subst e6
              replace h6 : a2.tmps[47]? = some _ := h6
              obtain ⟨u7, h7, e7⟩ := hd ⟨7, .data⟩ (by simp) rfl
              replace e7 : u7 = .int .i64 (i : Int) := e7
              subst e7
              replace h7 : a2.tmps[48]? = some _ := h7
              exact RInv.pure (v := (.pointer (some ⟨b', off' + i * 4, none⟩))) h hi rfl (wanted_none rfl) (fun _ => trivial) (by intro c; simp) (by simp [execOp, h6, h7, hlt2, go_sem]) rfl
            refine AllFrom.cons (fun listed a2 V h hi hd => ?_) ?_
            · obtain ⟨u8, h8, e8⟩ := hd ⟨8, .data⟩ (by simp) rfl
              replace e8 : u8 = (.pointer (some ⟨b', off' + i * 4, none⟩)) := e8
              subst e8
              replace h8 : a2.tmps[49]? = some _ := h8
              have kc0 := (h.cw.cell (p := ⟨b', off' + i * 4, none⟩) (show b' < wr.heap.size by omega)).trans ga
              have kc1 := (h.cw.cell (p := ⟨b', off' + i * 4 + 1, none⟩) (show b' < wr.heap.size by omega)).trans gb
              have kc2 := (h.cw.cell (p := ⟨b', off' + i * 4 + 2, none⟩) (show b' < wr.heap.size by omega)).trans gc
              have kc3 := (h.cw.cell (p := ⟨b', off' + i * 4 + 3, none⟩) (show b' < wr.heap.size by omega)).trans gd
              exact RInv.pure (v := .agg #[.int .u8 d[i].kind, .int .i64 d[i].num, .string d[i].name, .slice A'' d[i].kids.length cap'']) h hi rfl (wanted_none rfl) (fun _ => trivial) (by intro c; simp) (by simp [execOp, h8, kc0, kc1, kc2, kc3, go_sem]) rfl
            refine AllFrom.cons (fun listed a2 V h hi hd => ?_) ?_
            · obtain ⟨u4, h4, e4⟩ := hd ⟨4, .data⟩ (by simp) rfl
              replace e4 : u4 = .agg #[.int .u8 c[i].kind, .int .i64 c[i].num, .string c[i].name, .slice A' c[i].kids.length cap'] := e4
              subst e4
              replace h4 : a2.tmps[45]? = some _ := h4
              obtain ⟨u9, h9, e9⟩ := hd ⟨9, .data⟩ (by simp) rfl
              replace e9 : u9 = .agg #[.int .u8 d[i].kind, .int .i64 d[i].num, .string d[i].name, .slice A'' d[i].kids.length cap''] := e9
              subst e9
              replace h9 : a2.tmps[50]? = some _ := h9
              refine RInv.enter (f := 26) (args := #[.agg #[.int .u8 c[i].kind, .int .i64 c[i].num, .string c[i].name, .slice A' c[i].kids.length cap'], .agg #[.int .u8 d[i].kind, .int .i64 d[i].num, .string d[i].name, .slice A'' d[i].kids.length cap'']]) h hi rfl (wanted_none rfl) (fun _ => trivial) (by intro c; simp) rfl (by simp [execOp, h4, h9, go_sem]) ?_
              refine (callsIn_wide.2 (HT.out _ _ _ (HK.out.at_ (Nat.le_refl _) h.cw) (HK2.out.at_ (Nat.le_refl _) h.cw))).mono ?_
              rw [HP.out]
              rintro e V2 ⟨rfl, hq1⟩
              exact ⟨_, rfl, h.cw.trans (hq1.mono h.cw.size), Specs.mono hq1, rfl⟩
            refine AllFrom.cons (fun listed a2 V h hi hd => ?_) ?_
            · obtain ⟨u10, h10, e10⟩ := hd ⟨10, .data⟩ (by simp) rfl
              replace e10 : u10 = .bool true := e10
              subst e10
              replace h10 : a2.tmps[51]? = some _ := h10
              exact RInv.pure (v := .bool false) h hi rfl (wanted_none rfl) (fun _ => trivial) (by intro c; simp) (by simp [execOp, h10, go_sem]) rfl
            exact trivial
          case fin =>
            rintro a2 V hV hs hdf hfx hph
            obtain ⟨u11, h11, e11⟩ := hph 11 (by omega)
            replace e11 : u11 = .bool false := e11
            subst e11
            replace h11 : a2.tmps[52]? = some _ := h11
            obtain ⟨tm, df⟩ := a2
            have hdf1 : df = [] := hdf
            subst hdf1
            have htm := tm_sets [41, 42, 43, 44, 45, 46, 47, 48, 49, 50, 51, 52] hs (fun t ht => hfx t (fun j hj e => ht (e ▸ (show ∀ j, j < 12 → (fun i => 41 + i) j ∈ [41, 42, 43, 44, 45, 46, 47, 48, 49, 50, 51, 52] by decide) j hj)))
            simp only [List.foldl_cons, List.foldl_nil, List.setIfInBounds_toArray, List.set_cons_succ, List.set_cons_zero] at htm
            rw [show tm.getD 52 undef = .bool false from by simp only [Array.getD_eq_getD_getElem?, h11, Option.getD_some]] at htm
            clear hs hdf hfx hph h11
            generalize tm.getD 41 undef = y41 at htm
            generalize tm.getD 42 undef = y42 at htm
            generalize tm.getD 43 undef = y43 at htm
            generalize tm.getD 44 undef = y44 at htm
            generalize tm.getD 45 undef = y45 at htm
            generalize tm.getD 46 undef = y46 at htm
            generalize tm.getD 47 undef = y47 at htm
            generalize tm.getD 48 undef = y48 at htm
            generalize tm.getD 49 undef = y49 at htm
            generalize tm.getD 50 undef = y50 at htm
            generalize tm.getD 51 undef = y51 at htm
            subst htm
            have HV := Lib.hid hV
            clear hV
            go_wp2_with fail
            go_roundw
            case rel =>
              refine ⟨i + 1, by omega, by go_num, fun j h h' hj => ?_, hbw.trans (HV.out.mono (by omega))⟩
              by_cases e : j = i
              · subst e; exact HP.out
              · exact hall.out j h h' (by omega)
            case measure => simp [intOf]; omega
      · obtain rfl : i = c.length := by omega
        go_wp2_with fail
        go_ret
        exact ⟨by simp [eqB, show (k == k') = true by simpa using hk, show (n == n') = true by simpa using hn, hs, eqsB_of HL.out fun j h h' => hall.out j h h' h], hbb⟩

end Go.Proofs.Ytkngdmilgfgclaa
