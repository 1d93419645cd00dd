import Derived.Test.YtkkhjpkkjpcbmaaGreatEf6
import Derived.Test.YtkkhjpkkjpcbmaaGreatBH
import Derived.Test.YtkkhjpkkjpcbmaaGreatPred
/- effects.Independent. -/
namespace Go.Proofs.YtkkhjpkkjpcbmaaGreat
open Go.RowKit Go.Maps Go.Shelf Go.Sort

inductive ESpec where
 | is (v : Value)
 | set (L : List Nm)
def ESpec.ok : ESpec → Value → World → Prop
 | .is v, u, _ => u = v
 | .set L, u, V => ∃ b n, u = .map (some b) ∧ SetW V b n L
def ESpecs (l : List ESpec) (j : Nat) (u : Value) (V : World) : Prop := (l.getD j (.is undef)).ok u V
theorem ESpecs.mono {l : List ESpec} {V V' : World} (hb : Below V.heap.size V V') (j : Nat) (u : Value) (h : ESpecs l j u V) : ESpecs l j u V' := by
 unfold ESpecs at *
 cases hs : l.getD j (.is undef) with
 | «is» v => rw [hs] at h; exact h
 | set L =>
  rw [hs] at h
  obtain ⟨b, n, hu, hg⟩ := h
  exact ⟨b, n, hu, hg.below hb hg.lt⟩
def indS (i : Nat) : Nat := if i = 21 then 4 else 5 + i
/-- whether two trees are independent -/
def indB (tp : Tr → Bool) (a b : Tr) : Bool := disj (writesT a) (readsT b) && disj (writesT b) (readsT a) && !(tp a && tp b)

set_option maxRecDepth 100000 in
set_option maxHeartbeats 4000000 in
theorem ind0 {tp : Tr → Bool} (hT : ∀ t : Tr, t.size ≤ 1000000 → Tests 36 tp t) (k n : Int) (s : ByteArray) (c : List Tr) (A : Option Addr) (cap : Nat) (k' n' : Int) (s' : ByteArray) (d : List Tr) (A2 : Option Addr) (cap2 : Nat) (w : World)
  (hr : Rep w w.heap.size (.mk k n s c) (.agg #[.int .u8 k, .int .i64 n, .string s, .slice A c.length cap])) (hr2 : Rep w w.heap.size (.mk k' n' s' d) (.agg #[.int .u8 k', .int .i64 n', .string s', .slice A2 d.length cap2])) (hsz : (Tr.mk k n s c).size ≤ 1000000) (hsz2 : (Tr.mk k' n' s' d).size ≤ 1000000) (hd1 : disj (writesT (.mk k n s c)) (readsT (.mk k' n' s' d)) = false) :
  Calls Tryz.prog 15 #[.agg #[.int .u8 k, .int .i64 n, .string s, .slice A c.length cap], .agg #[.int .u8 k', .int .i64 n', .string s', .slice A2 d.length cap2]] w fun e w' => e = .returned (.bool false) ∧ Below w.heap.size w w' := by
 have hmo : Tryz.prog.follows .mixedOrders = true := by kernel_rfl
 have hbw : Below w.heap.size w ((w.alloc (.cells #[.int .u8 k, .int .i64 n, .string s, .slice A c.length cap] 26)).alloc (.cells #[.int .u8 k', .int .i64 n', .string s', .slice A2 d.length cap2] 26)) := ((Below.refl _ w).alloc (Nat.le_refl _) _).alloc (by simp) _
 have HBW := Lib.hid hbw
 have HA := Lib.hid (hr.at_ (Nat.le_refl _) hbw)
 have HB := Lib.hid (hr2.at_ (Nat.le_refl _) hbw)
 have HSA := Lib.hid hsz
 have HSB := Lib.hid hsz2
 have HT := Lib.hid hT
 have hx : ((w.alloc (.cells #[.int .u8 k, .int .i64 n, .string s, .slice A c.length cap] 26)).alloc (.cells #[.int .u8 k', .int .i64 n', .string s', .slice A2 d.length cap2] 26)).heap[w.heap.size]? = some (.cells #[.int .u8 k, .int .i64 n, .string s, .slice A c.length cap] 26 (0, 0)) := (Below.heap_alloc _ _ _ (by simp)).trans (heap_new w _)
 have hy : ((w.alloc (.cells #[.int .u8 k, .int .i64 n, .string s, .slice A c.length cap] 26)).alloc (.cells #[.int .u8 k', .int .i64 n', .string s', .slice A2 d.length cap2] 26)).heap[w.heap.size + 1]? = some (.cells #[.int .u8 k', .int .i64 n', .string s', .slice A2 d.length cap2] 26 (0, 0)) := by have := heap_new (w.alloc (.cells #[.int .u8 k, .int .i64 n, .string s, .slice A c.length cap] 26)) (.cells #[.int .u8 k', .int .i64 n', .string s', .slice A2 d.length cap2] 26); simpa using this
 have hws : w.heap.size + 2 = ((w.alloc (.cells #[.int .u8 k, .int .i64 n, .string s, .slice A c.length cap] 26)).alloc (.cells #[.int .u8 k', .int .i64 n', .string s', .slice A2 d.length cap2] 26)).heap.size := by simp
 have HD1 := Lib.hid hd1
 clear hd1
 clear hbw hr hr2 hsz hsz2 hT
 go_enter Tryz.func15, Tryz.ntmps15
 go_wp2_with fail
 generalize ((w.alloc (.cells #[.int .u8 k, .int .i64 n, .string s, .slice A c.length cap] 26)).alloc (.cells #[.int .u8 k', .int .i64 n', .string s', .slice A2 d.length cap2] 26)) = W0 at *
 have x0 : W0.cell? ⟨w.heap.size, 0, none⟩ = some (.int .u8 k) := cell_of_row _ _ 0 _ _ _ hx
 have x1 : W0.cell? ⟨w.heap.size, 1, none⟩ = some (.int .i64 n) := cell_of_row _ _ 1 _ _ _ hx
 have x2 : W0.cell? ⟨w.heap.size, 2, none⟩ = some (.string s) := cell_of_row _ _ 2 _ _ _ hx
 have x3 : W0.cell? ⟨w.heap.size, 3, none⟩ = some (.slice A c.length cap) := cell_of_row _ _ 3 _ _ _ hx
 have z0 : W0.cell? ⟨w.heap.size + 1, 0, none⟩ = some (.int .u8 k') := cell_of_row _ _ 0 _ _ _ hy
 have z1 : W0.cell? ⟨w.heap.size + 1, 1, none⟩ = some (.int .i64 n') := cell_of_row _ _ 1 _ _ _ hy
 have z2 : W0.cell? ⟨w.heap.size + 1, 2, none⟩ = some (.string s') := cell_of_row _ _ 2 _ _ _ hy
 have z3 : W0.cell? ⟨w.heap.size + 1, 3, none⟩ = some (.slice A2 d.length cap2) := cell_of_row _ _ 3 _ _ _ hy
 clear hx hy
 refine wpIn_wide (n := 0) |>.1 (region_all (N := 22) (s := indS) hmo rfl (by kernel_rfl) (fun V => Below W0.heap.size W0 V) (ESpecs [.is (.agg #[.int .u8 k, .int .i64 n, .string s, .slice A c.length cap]), .set (writesT (.mk k n s c)), .is (.agg #[.int .u8 k', .int .i64 n', .string s', .slice A2 d.length cap2]), .set (readsT (.mk k' n' s' d)), .is (.bool false), .is (.bool false), .is undef, .is undef, .is undef, .is undef, .is undef, .is (.bool false), .is (.bool false), .is undef, .is undef, .is undef, .is undef, .is undef, .is undef, .is undef, .is (.bool false), .is (.bool false)]) (by intro j hj; simp only [indS]; simp; split <;> omega) (by intro i j _ _ e; simp only [indS] at e; split at e <;> split at e <;> omega) (Below.refl _ W0).drew ?steps ?fin)
 case steps =>
  show AllFrom _ 0 (_ :: _)
  refine AllFrom.cons (fun listed a2 V h hi hd => ?_) ?_
  ·have f2 : a2.tmps[2]? = some (.pointer (some ⟨w.heap.size, 0, none⟩)) := h.fixed 2 (by intro j hj; simp only [indS]; split <;> omega)
   have kc0 := (h.cw.cell (p := ⟨w.heap.size, 0, none⟩) (show w.heap.size < W0.heap.size by omega)).trans x0
   have kc1 := (h.cw.cell (p := ⟨w.heap.size, 1, none⟩) (show w.heap.size < W0.heap.size by omega)).trans x1
   have kc2 := (h.cw.cell (p := ⟨w.heap.size, 2, none⟩) (show w.heap.size < W0.heap.size by omega)).trans x2
   have kc3 := (h.cw.cell (p := ⟨w.heap.size, 3, none⟩) (show w.heap.size < W0.heap.size by omega)).trans x3
   exact RInv.pure (v := .agg #[.int .u8 k, .int .i64 n, .string s, .slice A c.length cap]) h hi rfl (wanted_none rfl) (fun _ => trivial) (by intro c; simp) (by simp [execOp, f2, kc0, kc1, kc2, kc3, go_sem]) rfl
  refine AllFrom.cons (fun listed a2 V h hi hd => ?_) ?_
  ·obtain ⟨u0, h0, e0⟩ := hd ⟨0, .data⟩ (by simp) rfl
   replace e0 : u0 = .agg #[.int .u8 k, .int .i64 n, .string s, .slice A c.length cap] := e0
   subst e0
   replace h0 : a2.tmps[5]? = some _ := h0
   refine RInv.enter (f := 34) (args := #[.agg #[.int .u8 k, .int .i64 n, .string s, .slice A c.length cap]]) h hi rfl (wanted_none rfl) (fun _ => trivial) (by intro c; simp) rfl (by simp [h0, go_sem]) ?_
   refine (callsIn_wide.2 (writes_any _ _ _ (HA.out.at_ (Nat.le_refl _) h.cw) HSA.out)).mono ?_
   rintro e V2 ⟨b9, rfl, _, hs9, hb9⟩
   exact ⟨_, rfl, h.cw.trans (hb9.mono h.cw.size), fun j u hu => ESpecs.mono hb9 j u hu, ⟨_, _, rfl, hs9⟩⟩
  refine AllFrom.cons (fun listed a2 V h hi hd => ?_) ?_
  ·have f3 : a2.tmps[3]? = some (.pointer (some ⟨w.heap.size + 1, 0, none⟩)) := h.fixed 3 (by intro j hj; simp only [indS]; split <;> omega)
   have kc0 := (h.cw.cell (p := ⟨w.heap.size + 1, 0, none⟩) (show w.heap.size + 1 < W0.heap.size by omega)).trans z0
   have kc1 := (h.cw.cell (p := ⟨w.heap.size + 1, 1, none⟩) (show w.heap.size + 1 < W0.heap.size by omega)).trans z1
   have kc2 := (h.cw.cell (p := ⟨w.heap.size + 1, 2, none⟩) (show w.heap.size + 1 < W0.heap.size by omega)).trans z2
   have kc3 := (h.cw.cell (p := ⟨w.heap.size + 1, 3, none⟩) (show w.heap.size + 1 < W0.heap.size by omega)).trans z3
   exact RInv.pure (v := .agg #[.int .u8 k', .int .i64 n', .string s', .slice A2 d.length cap2]) h hi rfl (wanted_none rfl) (fun _ => trivial) (by intro c; simp) (by simp [execOp, f3, kc0, kc1, kc2, kc3, go_sem]) rfl
  refine AllFrom.cons (fun listed a2 V h hi hd => ?_) ?_
  ·obtain ⟨u2, h2, e2⟩ := hd ⟨2, .data⟩ (by simp) rfl
   replace e2 : u2 = .agg #[.int .u8 k', .int .i64 n', .string s', .slice A2 d.length cap2] := e2
   subst e2
   replace h2 : a2.tmps[7]? = some _ := h2
   refine RInv.enter (f := 28) (args := #[.agg #[.int .u8 k', .int .i64 n', .string s', .slice A2 d.length cap2]]) h hi rfl (wanted_none rfl) (fun _ => trivial) (by intro c; simp) rfl (by simp [h2, go_sem]) ?_
   refine (callsIn_wide.2 (reads_any _ _ _ (HB.out.at_ (Nat.le_refl _) h.cw) HSB.out)).mono ?_
   rintro e V2 ⟨b9, rfl, _, hs9, hb9⟩
   exact ⟨_, rfl, h.cw.trans (hb9.mono h.cw.size), fun j u hu => ESpecs.mono hb9 j u hu, ⟨_, _, rfl, hs9⟩⟩
  refine AllFrom.cons (fun listed a2 V h hi hd => ?_) ?_
  ·obtain ⟨u1, h1, e1⟩ := hd ⟨1, .data⟩ (by simp) rfl
   obtain ⟨b1, n1, e1, S1⟩ : ∃ bb nn, u1 = .map (some bb) ∧ SetW V bb nn (writesT (.mk k n s c)) := e1
   subst e1
   replace h1 : a2.tmps[6]? = some _ := h1
   obtain ⟨u3, h3, e3⟩ := hd ⟨3, .data⟩ (by simp) rfl
   obtain ⟨b3, n3, e3, S3⟩ : ∃ bb nn, u3 = .map (some bb) ∧ SetW V bb nn (readsT (.mk k' n' s' d)) := e3
   subst e3
   replace h3 : a2.tmps[8]? = some _ := h3
   refine RInv.enter (f := 35) (args := #[.map (some b1), .map (some b3)]) h hi rfl (wanted_none rfl) (fun _ => trivial) (by intro c; simp) rfl (by simp [h1, h3, go_sem]) ?_
   refine (callsIn_wide.2 (disjoint_any _ _ _ _ _ _ V S1 S3)).mono ?_
   rintro e V2 ⟨rfl, hb9⟩
   rw [HD1.out]
   exact ⟨_, rfl, h.cw.trans (hb9.mono h.cw.size), fun j u hu => ESpecs.mono hb9 j u hu, rfl⟩
  refine AllFrom.cons (fun listed a2 V h hi hd => ?_) ?_
  ·obtain ⟨u4, h4, e4⟩ := hd ⟨4, .data⟩ (by simp) rfl
   replace e4 : u4 = .bool false := e4
   subst e4
   replace h4 : a2.tmps[9]? = some _ := h4
   exact RInv.pure (v := .bool false) h hi rfl (wanted_none rfl) (fun _ => trivial) (by intro c; simp) (by simp [execOp, h4, go_sem]) rfl
  refine AllFrom.cons (fun listed a2 V h hi hd => ?_) ?_
  ·obtain ⟨u5, h5, e5⟩ := hd ⟨5, .guard⟩ (by simp) rfl
   replace e5 : u5 = .bool false := e5
   subst e5
   replace h5 : a2.tmps[10]? = some _ := h5
   exact RInv.skip h hi rfl (wanted_at rfl rfl h5 rfl) (fun _ => trivial) rfl
  refine AllFrom.cons (fun listed a2 V h hi hd => ?_) ?_
  ·obtain ⟨u6, h6, e6⟩ := hd ⟨6, .data⟩ (by simp) rfl
   replace e6 : u6 = undef := e6
   subst e6
   replace h6 : a2.tmps[11]? = some _ := h6
   obtain ⟨u5, h5, e5⟩ := hd ⟨5, .chain⟩ (by simp) rfl
   replace e5 : u5 = .bool false := e5
   subst e5
   replace h5 : a2.tmps[10]? = some _ := h5
   exact RInv.skip h hi rfl (wanted_at rfl rfl h5 rfl) (fun _ => trivial) rfl
  refine AllFrom.cons (fun listed a2 V h hi hd => ?_) ?_
  ·obtain ⟨u5, h5, e5⟩ := hd ⟨5, .guard⟩ (by simp) rfl
   replace e5 : u5 = .bool false := e5
   subst e5
   replace h5 : a2.tmps[10]? = some _ := h5
   exact RInv.skip h hi rfl (wanted_at rfl rfl h5 rfl) (fun _ => trivial) rfl
  refine AllFrom.cons (fun listed a2 V h hi hd => ?_) ?_
  ·obtain ⟨u8, h8, e8⟩ := hd ⟨8, .data⟩ (by simp) rfl
   replace e8 : u8 = undef := e8
   subst e8
   replace h8 : a2.tmps[13]? = some _ := h8
   obtain ⟨u5, h5, e5⟩ := hd ⟨5, .guard⟩ (by simp) rfl
   replace e5 : u5 = .bool false := e5
   subst e5
   replace h5 : a2.tmps[10]? = some _ := h5
   exact RInv.skip h hi rfl (wanted_at rfl rfl h5 rfl) (fun _ => trivial) rfl
  refine AllFrom.cons (fun listed a2 V h hi hd => ?_) ?_
  ·obtain ⟨u7, h7, e7⟩ := hd ⟨7, .data⟩ (by simp) rfl
   replace e7 : u7 = undef := e7
   subst e7
   replace h7 : a2.tmps[12]? = some _ := h7
   obtain ⟨u9, h9, e9⟩ := hd ⟨9, .data⟩ (by simp) rfl
   replace e9 : u9 = undef := e9
   subst e9
   replace h9 : a2.tmps[14]? = some _ := h9
   obtain ⟨u5, h5, e5⟩ := hd ⟨5, .guard⟩ (by simp) rfl
   replace e5 : u5 = .bool false := e5
   subst e5
   replace h5 : a2.tmps[10]? = some _ := h5
   exact RInv.skip h hi rfl (wanted_at rfl rfl h5 rfl) (fun _ => trivial) rfl
  refine AllFrom.cons (fun listed a2 V h hi hd => ?_) ?_
  ·obtain ⟨u5, h5, e5⟩ := hd ⟨5, .data⟩ (by simp) rfl
   replace e5 : u5 = .bool false := e5
   subst e5
   replace h5 : a2.tmps[10]? = some _ := h5
   obtain ⟨u10, h10, e10⟩ := hd ⟨10, .data⟩ (by simp) rfl
   replace e10 : u10 = undef := e10
   subst e10
   replace h10 : a2.tmps[15]? = some _ := h10
   exact RInv.pure (v := .bool false) h hi rfl (wanted_none rfl) (fun _ => trivial) (by intro c; simp) (by simp [execOp, h5, go_sem]) rfl
  refine AllFrom.cons (fun listed a2 V h hi hd => ?_) ?_
  ·obtain ⟨u11, h11, e11⟩ := hd ⟨11, .data⟩ (by simp) rfl
   replace e11 : u11 = .bool false := e11
   subst e11
   replace h11 : a2.tmps[16]? = some _ := h11
   exact RInv.pure (v := .bool false) h hi rfl (wanted_none rfl) (fun _ => trivial) (by intro c; simp) (by simp [execOp, h11, go_sem]) rfl
  refine AllFrom.cons (fun listed a2 V h hi hd => ?_) ?_
  ·obtain ⟨u12, h12, e12⟩ := hd ⟨12, .guard⟩ (by simp) rfl
   replace e12 : u12 = .bool false := e12
   subst e12
   replace h12 : a2.tmps[17]? = some _ := h12
   exact RInv.skip h hi rfl (wanted_at rfl rfl h12 rfl) (fun _ => trivial) rfl
  refine AllFrom.cons (fun listed a2 V h hi hd => ?_) ?_
  ·obtain ⟨u13, h13, e13⟩ := hd ⟨13, .data⟩ (by simp) rfl
   replace e13 : u13 = undef := e13
   subst e13
   replace h13 : a2.tmps[18]? = some _ := h13
   obtain ⟨u12, h12, e12⟩ := hd ⟨12, .chain⟩ (by simp) rfl
   replace e12 : u12 = .bool false := e12
   subst e12
   replace h12 : a2.tmps[17]? = some _ := h12
   exact RInv.skip h hi rfl (wanted_at rfl rfl h12 rfl) (fun _ => trivial) rfl
  refine AllFrom.cons (fun listed a2 V h hi hd => ?_) ?_
  ·obtain ⟨u14, h14, e14⟩ := hd ⟨14, .data⟩ (by simp) rfl
   replace e14 : u14 = undef := e14
   subst e14
   replace h14 : a2.tmps[19]? = some _ := h14
   obtain ⟨u12, h12, e12⟩ := hd ⟨12, .guard⟩ (by simp) rfl
   replace e12 : u12 = .bool false := e12
   subst e12
   replace h12 : a2.tmps[17]? = some _ := h12
   exact RInv.skip h hi rfl (wanted_at rfl rfl h12 rfl) (fun _ => trivial) rfl
  refine AllFrom.cons (fun listed a2 V h hi hd => ?_) ?_
  ·obtain ⟨u15, h15, e15⟩ := hd ⟨15, .guard⟩ (by simp) rfl
   replace e15 : u15 = undef := e15
   subst e15
   replace h15 : a2.tmps[20]? = some _ := h15
   exact RInv.skip h hi rfl (wanted_undef rfl rfl h15) (fun _ => trivial) rfl
  refine AllFrom.cons (fun listed a2 V h hi hd => ?_) ?_
  ·obtain ⟨u16, h16, e16⟩ := hd ⟨16, .data⟩ (by simp) rfl
   replace e16 : u16 = undef := e16
   subst e16
   replace h16 : a2.tmps[21]? = some _ := h16
   obtain ⟨u15, h15, e15⟩ := hd ⟨15, .chain⟩ (by simp) rfl
   replace e15 : u15 = undef := e15
   subst e15
   replace h15 : a2.tmps[20]? = some _ := h15
   exact RInv.skip h hi rfl (wanted_undef rfl rfl h15) (fun _ => trivial) rfl
  refine AllFrom.cons (fun listed a2 V h hi hd => ?_) ?_
  ·obtain ⟨u15, h15, e15⟩ := hd ⟨15, .data⟩ (by simp) rfl
   replace e15 : u15 = undef := e15
   subst e15
   replace h15 : a2.tmps[20]? = some _ := h15
   obtain ⟨u17, h17, e17⟩ := hd ⟨17, .data⟩ (by simp) rfl
   replace e17 : u17 = undef := e17
   subst e17
   replace h17 : a2.tmps[22]? = some _ := h17
   obtain ⟨u12, h12, e12⟩ := hd ⟨12, .guard⟩ (by simp) rfl
   replace e12 : u12 = .bool false := e12
   subst e12
   replace h12 : a2.tmps[17]? = some _ := h12
   exact RInv.skip h hi rfl (wanted_at rfl rfl h12 rfl) (fun _ => trivial) rfl
  refine AllFrom.cons (fun listed a2 V h hi hd => ?_) ?_
  ·obtain ⟨u18, h18, e18⟩ := hd ⟨18, .data⟩ (by simp) rfl
   replace e18 : u18 = undef := e18
   subst e18
   replace h18 : a2.tmps[23]? = some _ := h18
   obtain ⟨u12, h12, e12⟩ := hd ⟨12, .guard⟩ (by simp) rfl
   replace e12 : u12 = .bool false := e12
   subst e12
   replace h12 : a2.tmps[17]? = some _ := h12
   exact RInv.skip h hi rfl (wanted_at rfl rfl h12 rfl) (fun _ => trivial) rfl
  refine AllFrom.cons (fun listed a2 V h hi hd => ?_) ?_
  ·obtain ⟨u12, h12, e12⟩ := hd ⟨12, .data⟩ (by simp) rfl
   replace e12 : u12 = .bool false := e12
   subst e12
   replace h12 : a2.tmps[17]? = some _ := h12
   obtain ⟨u19, h19, e19⟩ := hd ⟨19, .data⟩ (by simp) rfl
   replace e19 : u19 = undef := e19
   subst e19
   replace h19 : a2.tmps[24]? = some _ := h19
   exact RInv.pure (v := .bool false) h hi rfl (wanted_none rfl) (fun _ => trivial) (by intro c; simp) (by simp [execOp, h12, go_sem]) rfl
  refine AllFrom.cons (fun listed a2 V h hi hd => ?_) ?_
  ·obtain ⟨u20, h20, e20⟩ := hd ⟨20, .data⟩ (by simp) rfl
   replace e20 : u20 = .bool false := e20
   subst e20
   replace h20 : a2.tmps[25]? = some _ := h20
   exact RInv.pure (v := .bool false) h hi rfl (wanted_none rfl) (fun _ => trivial) (by intro c; simp) (by simp [execOp, h20, go_sem]) rfl
  exact trivial
 case fin =>
  rintro a2 V hV hs hdf hfx hph
  obtain ⟨u21, h21, e21⟩ := hph 21 (by omega)
  replace e21 : u21 = .bool false := e21
  subst e21
  replace h21 : a2.tmps[4]? = some _ := h21
  obtain ⟨tm, df⟩ := a2
  have hdf1 : df = [] := hdf
  subst hdf1
  have htm := tm_sets [5, 6, 7, 8, 9, 10, 11, 12, 13, 14, 15, 16, 17, 18, 19, 20, 21, 22, 23, 24, 25, 4] hs (fun t ht => hfx t (fun j hj e => ht (e ▸ (show ∀ j, j < 22 → (indS) j ∈ [5, 6, 7, 8, 9, 10, 11, 12, 13, 14, 15, 16, 17, 18, 19, 20, 21, 22, 23, 24, 25, 4] by decide) j hj)))
  simp only [List.foldl_cons, List.foldl_nil, List.setIfInBounds_toArray, List.set_cons_succ, List.set_cons_zero] at htm
  rw [show tm.getD 4 undef = .bool false from by simp only [Array.getD_eq_getD_getElem?, h21, Option.getD_some]] at htm
  clear hs hdf hfx hph h21
  generalize tm.getD 5 undef = y5 at htm
  generalize tm.getD 6 undef = y6 at htm
  generalize tm.getD 7 undef = y7 at htm
  generalize tm.getD 8 undef = y8 at htm
  generalize tm.getD 9 undef = y9 at htm
  generalize tm.getD 10 undef = y10 at htm
  generalize tm.getD 11 undef = y11 at htm
  generalize tm.getD 12 undef = y12 at htm
  generalize tm.getD 13 undef = y13 at htm
  generalize tm.getD 14 undef = y14 at htm
  generalize tm.getD 15 undef = y15 at htm
  generalize tm.getD 16 undef = y16 at htm
  generalize tm.getD 17 undef = y17 at htm
  generalize tm.getD 18 undef = y18 at htm
  generalize tm.getD 19 undef = y19 at htm
  generalize tm.getD 20 undef = y20 at htm
  generalize tm.getD 21 undef = y21 at htm
  generalize tm.getD 22 undef = y22 at htm
  generalize tm.getD 23 undef = y23 at htm
  generalize tm.getD 24 undef = y24 at htm
  generalize tm.getD 25 undef = y25 at htm
  subst htm
  have HV := Lib.hid hV
  clear hV
  go_wp2_with fail
  go_ret
  exact ⟨rfl, HBW.out.trans (HV.out.mono (by omega))⟩

set_option maxRecDepth 100000 in
set_option maxHeartbeats 4000000 in
theorem ind1 {tp : Tr → Bool} (hT : ∀ t : Tr, t.size ≤ 1000000 → Tests 36 tp t) (k n : Int) (s : ByteArray) (c : List Tr) (A : Option Addr) (cap : Nat) (k' n' : Int) (s' : ByteArray) (d : List Tr) (A2 : Option Addr) (cap2 : Nat) (w : World)
  (hr : Rep w w.heap.size (.mk k n s c) (.agg #[.int .u8 k, .int .i64 n, .string s, .slice A c.length cap])) (hr2 : Rep w w.heap.size (.mk k' n' s' d) (.agg #[.int .u8 k', .int .i64 n', .string s', .slice A2 d.length cap2])) (hsz : (Tr.mk k n s c).size ≤ 1000000) (hsz2 : (Tr.mk k' n' s' d).size ≤ 1000000) (hd1 : disj (writesT (.mk k n s c)) (readsT (.mk k' n' s' d)) = true) (hd2 : disj (writesT (.mk k' n' s' d)) (readsT (.mk k n s c)) = false) :
  Calls Tryz.prog 15 #[.agg #[.int .u8 k, .int .i64 n, .string s, .slice A c.length cap], .agg #[.int .u8 k', .int .i64 n', .string s', .slice A2 d.length cap2]] w fun e w' => e = .returned (.bool false) ∧ Below w.heap.size w w' := by
 have hmo : Tryz.prog.follows .mixedOrders = true := by kernel_rfl
 have hbw : Below w.heap.size w ((w.alloc (.cells #[.int .u8 k, .int .i64 n, .string s, .slice A c.length cap] 26)).alloc (.cells #[.int .u8 k', .int .i64 n', .string s', .slice A2 d.length cap2] 26)) := ((Below.refl _ w).alloc (Nat.le_refl _) _).alloc (by simp) _
 have HBW := Lib.hid hbw
 have HA := Lib.hid (hr.at_ (Nat.le_refl _) hbw)
 have HB := Lib.hid (hr2.at_ (Nat.le_refl _) hbw)
 have HSA := Lib.hid hsz
 have HSB := Lib.hid hsz2
 have HT := Lib.hid hT
 have hx : ((w.alloc (.cells #[.int .u8 k, .int .i64 n, .string s, .slice A c.length cap] 26)).alloc (.cells #[.int .u8 k', .int .i64 n', .string s', .slice A2 d.length cap2] 26)).heap[w.heap.size]? = some (.cells #[.int .u8 k, .int .i64 n, .string s, .slice A c.length cap] 26 (0, 0)) := (Below.heap_alloc _ _ _ (by simp)).trans (heap_new w _)
 have hy : ((w.alloc (.cells #[.int .u8 k, .int .i64 n, .string s, .slice A c.length cap] 26)).alloc (.cells #[.int .u8 k', .int .i64 n', .string s', .slice A2 d.length cap2] 26)).heap[w.heap.size + 1]? = some (.cells #[.int .u8 k', .int .i64 n', .string s', .slice A2 d.length cap2] 26 (0, 0)) := by have := heap_new (w.alloc (.cells #[.int .u8 k, .int .i64 n, .string s, .slice A c.length cap] 26)) (.cells #[.int .u8 k', .int .i64 n', .string s', .slice A2 d.length cap2] 26); simpa using this
 have hws : w.heap.size + 2 = ((w.alloc (.cells #[.int .u8 k, .int .i64 n, .string s, .slice A c.length cap] 26)).alloc (.cells #[.int .u8 k', .int .i64 n', .string s', .slice A2 d.length cap2] 26)).heap.size := by simp
 have HD1 := Lib.hid hd1
 have HD2 := Lib.hid hd2
 clear hd1 hd2
 clear hbw hr hr2 hsz hsz2 hT
 go_enter Tryz.func15, Tryz.ntmps15
 go_wp2_with fail
 generalize ((w.alloc (.cells #[.int .u8 k, .int .i64 n, .string s, .slice A c.length cap] 26)).alloc (.cells #[.int .u8 k', .int .i64 n', .string s', .slice A2 d.length cap2] 26)) = W0 at *
 have x0 : W0.cell? ⟨w.heap.size, 0, none⟩ = some (.int .u8 k) := cell_of_row _ _ 0 _ _ _ hx
 have x1 : W0.cell? ⟨w.heap.size, 1, none⟩ = some (.int .i64 n) := cell_of_row _ _ 1 _ _ _ hx
 have x2 : W0.cell? ⟨w.heap.size, 2, none⟩ = some (.string s) := cell_of_row _ _ 2 _ _ _ hx
 have x3 : W0.cell? ⟨w.heap.size, 3, none⟩ = some (.slice A c.length cap) := cell_of_row _ _ 3 _ _ _ hx
 have z0 : W0.cell? ⟨w.heap.size + 1, 0, none⟩ = some (.int .u8 k') := cell_of_row _ _ 0 _ _ _ hy
 have z1 : W0.cell? ⟨w.heap.size + 1, 1, none⟩ = some (.int .i64 n') := cell_of_row _ _ 1 _ _ _ hy
 have z2 : W0.cell? ⟨w.heap.size + 1, 2, none⟩ = some (.string s') := cell_of_row _ _ 2 _ _ _ hy
 have z3 : W0.cell? ⟨w.heap.size + 1, 3, none⟩ = some (.slice A2 d.length cap2) := cell_of_row _ _ 3 _ _ _ hy
 clear hx hy
 refine wpIn_wide (n := 0) |>.1 (region_all (N := 22) (s := indS) hmo rfl (by kernel_rfl) (fun V => Below W0.heap.size W0 V) (ESpecs [.is (.agg #[.int .u8 k, .int .i64 n, .string s, .slice A c.length cap]), .set (writesT (.mk k n s c)), .is (.agg #[.int .u8 k', .int .i64 n', .string s', .slice A2 d.length cap2]), .set (readsT (.mk k' n' s' d)), .is (.bool true), .is (.bool true), .is (.agg #[.int .u8 k', .int .i64 n', .string s', .slice A2 d.length cap2]), .set (writesT (.mk k' n' s' d)), .is (.agg #[.int .u8 k, .int .i64 n, .string s, .slice A c.length cap]), .set (readsT (.mk k n s c)), .is (.bool false), .is (.bool false), .is (.bool false), .is undef, .is undef, .is undef, .is undef, .is undef, .is undef, .is undef, .is (.bool false), .is (.bool false)]) (by intro j hj; simp only [indS]; simp; split <;> omega) (by intro i j _ _ e; simp only [indS] at e; split at e <;> split at e <;> omega) (Below.refl _ W0).drew ?steps ?fin)
 case steps =>
  show AllFrom _ 0 (_ :: _)
  refine AllFrom.cons (fun listed a2 V h hi hd => ?_) ?_
  ·have f2 : a2.tmps[2]? = some (.pointer (some ⟨w.heap.size, 0, none⟩)) := h.fixed 2 (by intro j hj; simp only [indS]; split <;> omega)
   have kc0 := (h.cw.cell (p := ⟨w.heap.size, 0, none⟩) (show w.heap.size < W0.heap.size by omega)).trans x0
   have kc1 := (h.cw.cell (p := ⟨w.heap.size, 1, none⟩) (show w.heap.size < W0.heap.size by omega)).trans x1
   have kc2 := (h.cw.cell (p := ⟨w.heap.size, 2, none⟩) (show w.heap.size < W0.heap.size by omega)).trans x2
   have kc3 := (h.cw.cell (p := ⟨w.heap.size, 3, none⟩) (show w.heap.size < W0.heap.size by omega)).trans x3
   exact RInv.pure (v := .agg #[.int .u8 k, .int .i64 n, .string s, .slice A c.length cap]) h hi rfl (wanted_none rfl) (fun _ => trivial) (by intro c; simp) (by simp [execOp, f2, kc0, kc1, kc2, kc3, go_sem]) rfl
  refine AllFrom.cons (fun listed a2 V h hi hd => ?_) ?_
  ·obtain ⟨u0, h0, e0⟩ := hd ⟨0, .data⟩ (by simp) rfl
   replace e0 : u0 = .agg #[.int .u8 k, .int .i64 n, .string s, .slice A c.length cap] := e0
   subst e0
   replace h0 : a2.tmps[5]? = some _ := h0
   refine RInv.enter (f := 34) (args := #[.agg #[.int .u8 k, .int .i64 n, .string s, .slice A c.length cap]]) h hi rfl (wanted_none rfl) (fun _ => trivial) (by intro c; simp) rfl (by simp [h0, go_sem]) ?_
   refine (callsIn_wide.2 (writes_any _ _ _ (HA.out.at_ (Nat.le_refl _) h.cw) HSA.out)).mono ?_
   rintro e V2 ⟨b9, rfl, _, hs9, hb9⟩
   exact ⟨_, rfl, h.cw.trans (hb9.mono h.cw.size), fun j u hu => ESpecs.mono hb9 j u hu, ⟨_, _, rfl, hs9⟩⟩
  refine AllFrom.cons (fun listed a2 V h hi hd => ?_) ?_
  ·have f3 : a2.tmps[3]? = some (.pointer (some ⟨w.heap.size + 1, 0, none⟩)) := h.fixed 3 (by intro j hj; simp only [indS]; split <;> omega)
   have kc0 := (h.cw.cell (p := ⟨w.heap.size + 1, 0, none⟩) (show w.heap.size + 1 < W0.heap.size by omega)).trans z0
   have kc1 := (h.cw.cell (p := ⟨w.heap.size + 1, 1, none⟩) (show w.heap.size + 1 < W0.heap.size by omega)).trans z1
   have kc2 := (h.cw.cell (p := ⟨w.heap.size + 1, 2, none⟩) (show w.heap.size + 1 < W0.heap.size by omega)).trans z2
   have kc3 := (h.cw.cell (p := ⟨w.heap.size + 1, 3, none⟩) (show w.heap.size + 1 < W0.heap.size by omega)).trans z3
   exact RInv.pure (v := .agg #[.int .u8 k', .int .i64 n', .string s', .slice A2 d.length cap2]) h hi rfl (wanted_none rfl) (fun _ => trivial) (by intro c; simp) (by simp [execOp, f3, kc0, kc1, kc2, kc3, go_sem]) rfl
  refine AllFrom.cons (fun listed a2 V h hi hd => ?_) ?_
  ·obtain ⟨u2, h2, e2⟩ := hd ⟨2, .data⟩ (by simp) rfl
   replace e2 : u2 = .agg #[.int .u8 k', .int .i64 n', .string s', .slice A2 d.length cap2] := e2
   subst e2
   replace h2 : a2.tmps[7]? = some _ := h2
   refine RInv.enter (f := 28) (args := #[.agg #[.int .u8 k', .int .i64 n', .string s', .slice A2 d.length cap2]]) h hi rfl (wanted_none rfl) (fun _ => trivial) (by intro c; simp) rfl (by simp [h2, go_sem]) ?_
   refine (callsIn_wide.2 (reads_any _ _ _ (HB.out.at_ (Nat.le_refl _) h.cw) HSB.out)).mono ?_
   rintro e V2 ⟨b9, rfl, _, hs9, hb9⟩
   exact ⟨_, rfl, h.cw.trans (hb9.mono h.cw.size), fun j u hu => ESpecs.mono hb9 j u hu, ⟨_, _, rfl, hs9⟩⟩
  refine AllFrom.cons (fun listed a2 V h hi hd => ?_) ?_
  ·obtain ⟨u1, h1, e1⟩ := hd ⟨1, .data⟩ (by simp) rfl
   obtain ⟨b1, n1, e1, S1⟩ : ∃ bb nn, u1 = .map (some bb) ∧ SetW V bb nn (writesT (.mk k n s c)) := e1
   subst e1
   replace h1 : a2.tmps[6]? = some _ := h1
   obtain ⟨u3, h3, e3⟩ := hd ⟨3, .data⟩ (by simp) rfl
   obtain ⟨b3, n3, e3, S3⟩ : ∃ bb nn, u3 = .map (some bb) ∧ SetW V bb nn (readsT (.mk k' n' s' d)) := e3
   subst e3
   replace h3 : a2.tmps[8]? = some _ := h3
   refine RInv.enter (f := 35) (args := #[.map (some b1), .map (some b3)]) h hi rfl (wanted_none rfl) (fun _ => trivial) (by intro c; simp) rfl (by simp [h1, h3, go_sem]) ?_
   refine (callsIn_wide.2 (disjoint_any _ _ _ _ _ _ V S1 S3)).mono ?_
   rintro e V2 ⟨rfl, hb9⟩
   rw [HD1.out]
   exact ⟨_, rfl, h.cw.trans (hb9.mono h.cw.size), fun j u hu => ESpecs.mono hb9 j u hu, rfl⟩
  refine AllFrom.cons (fun listed a2 V h hi hd => ?_) ?_
  ·obtain ⟨u4, h4, e4⟩ := hd ⟨4, .data⟩ (by simp) rfl
   replace e4 : u4 = .bool true := e4
   subst e4
   replace h4 : a2.tmps[9]? = some _ := h4
   exact RInv.pure (v := .bool true) h hi rfl (wanted_none rfl) (fun _ => trivial) (by intro c; simp) (by simp [execOp, h4, go_sem]) rfl
  refine AllFrom.cons (fun listed a2 V h hi hd => ?_) ?_
  ·obtain ⟨u5, h5, e5⟩ := hd ⟨5, .guard⟩ (by simp) rfl
   replace e5 : u5 = .bool true := e5
   subst e5
   replace h5 : a2.tmps[10]? = some _ := h5
   have f3 : a2.tmps[3]? = some (.pointer (some ⟨w.heap.size + 1, 0, none⟩)) := h.fixed 3 (by intro j hj; simp only [indS]; split <;> omega)
   have kc0 := (h.cw.cell (p := ⟨w.heap.size + 1, 0, none⟩) (show w.heap.size + 1 < W0.heap.size by omega)).trans z0
   have kc1 := (h.cw.cell (p := ⟨w.heap.size + 1, 1, none⟩) (show w.heap.size + 1 < W0.heap.size by omega)).trans z1
   have kc2 := (h.cw.cell (p := ⟨w.heap.size + 1, 2, none⟩) (show w.heap.size + 1 < W0.heap.size by omega)).trans z2
   have kc3 := (h.cw.cell (p := ⟨w.heap.size + 1, 3, none⟩) (show w.heap.size + 1 < W0.heap.size by omega)).trans z3
   exact RInv.pure (v := .agg #[.int .u8 k', .int .i64 n', .string s', .slice A2 d.length cap2]) h hi rfl (wanted_at rfl rfl h5 rfl) (fun _ => trivial) (by intro c; simp) (by simp [execOp, f3, kc0, kc1, kc2, kc3, go_sem]) rfl
  refine AllFrom.cons (fun listed a2 V h hi hd => ?_) ?_
  ·obtain ⟨u6, h6, e6⟩ := hd ⟨6, .data⟩ (by simp) rfl
   replace e6 : u6 = .agg #[.int .u8 k', .int .i64 n', .string s', .slice A2 d.length cap2] := e6
   subst e6
   replace h6 : a2.tmps[11]? = some _ := h6
   obtain ⟨u5, h5, e5⟩ := hd ⟨5, .chain⟩ (by simp) rfl
   replace e5 : u5 = .bool true := e5
   subst e5
   replace h5 : a2.tmps[10]? = some _ := h5
   refine RInv.enter (f := 34) (args := #[.agg #[.int .u8 k', .int .i64 n', .string s', .slice A2 d.length cap2]]) h hi rfl (wanted_at rfl rfl h5 rfl) (fun _ => trivial) (by intro c; simp) rfl (by simp [h6, go_sem]) ?_
   refine (callsIn_wide.2 (writes_any _ _ _ (HB.out.at_ (Nat.le_refl _) h.cw) HSB.out)).mono ?_
   rintro e V2 ⟨b9, rfl, _, hs9, hb9⟩
   exact ⟨_, rfl, h.cw.trans (hb9.mono h.cw.size), fun j u hu => ESpecs.mono hb9 j u hu, ⟨_, _, rfl, hs9⟩⟩
  refine AllFrom.cons (fun listed a2 V h hi hd => ?_) ?_
  ·obtain ⟨u5, h5, e5⟩ := hd ⟨5, .guard⟩ (by simp) rfl
   replace e5 : u5 = .bool true := e5
   subst e5
   replace h5 : a2.tmps[10]? = some _ := h5
   have f2 : a2.tmps[2]? = some (.pointer (some ⟨w.heap.size, 0, none⟩)) := h.fixed 2 (by intro j hj; simp only [indS]; split <;> omega)
   have kc0 := (h.cw.cell (p := ⟨w.heap.size, 0, none⟩) (show w.heap.size < W0.heap.size by omega)).trans x0
   have kc1 := (h.cw.cell (p := ⟨w.heap.size, 1, none⟩) (show w.heap.size < W0.heap.size by omega)).trans x1
   have kc2 := (h.cw.cell (p := ⟨w.heap.size, 2, none⟩) (show w.heap.size < W0.heap.size by omega)).trans x2
   have kc3 := (h.cw.cell (p := ⟨w.heap.size, 3, none⟩) (show w.heap.size < W0.heap.size by omega)).trans x3
   exact RInv.pure (v := .agg #[.int .u8 k, .int .i64 n, .string s, .slice A c.length cap]) h hi rfl (wanted_at rfl rfl h5 rfl) (fun _ => trivial) (by intro c; simp) (by simp [execOp, f2, kc0, kc1, kc2, kc3, go_sem]) rfl
  refine AllFrom.cons (fun listed a2 V h hi hd => ?_) ?_
  ·obtain ⟨u8, h8, e8⟩ := hd ⟨8, .data⟩ (by simp) rfl
   replace e8 : u8 = .agg #[.int .u8 k, .int .i64 n, .string s, .slice A c.length cap] := e8
   subst e8
   replace h8 : a2.tmps[13]? = some _ := h8
   obtain ⟨u5, h5, e5⟩ := hd ⟨5, .guard⟩ (by simp) rfl
   replace e5 : u5 = .bool true := e5
   subst e5
   replace h5 : a2.tmps[10]? = some _ := h5
   refine RInv.enter (f := 28) (args := #[.agg #[.int .u8 k, .int .i64 n, .string s, .slice A c.length cap]]) h hi rfl (wanted_at rfl rfl h5 rfl) (fun _ => trivial) (by intro c; simp) rfl (by simp [h8, go_sem]) ?_
   refine (callsIn_wide.2 (reads_any _ _ _ (HA.out.at_ (Nat.le_refl _) h.cw) HSA.out)).mono ?_
   rintro e V2 ⟨b9, rfl, _, hs9, hb9⟩
   exact ⟨_, rfl, h.cw.trans (hb9.mono h.cw.size), fun j u hu => ESpecs.mono hb9 j u hu, ⟨_, _, rfl, hs9⟩⟩
  refine AllFrom.cons (fun listed a2 V h hi hd => ?_) ?_
  ·obtain ⟨u7, h7, e7⟩ := hd ⟨7, .data⟩ (by simp) rfl
   obtain ⟨b7, n7, e7, S7⟩ : ∃ bb nn, u7 = .map (some bb) ∧ SetW V bb nn (writesT (.mk k' n' s' d)) := e7
   subst e7
   replace h7 : a2.tmps[12]? = some _ := h7
   obtain ⟨u9, h9, e9⟩ := hd ⟨9, .data⟩ (by simp) rfl
   obtain ⟨b9, n9, e9, S9⟩ : ∃ bb nn, u9 = .map (some bb) ∧ SetW V bb nn (readsT (.mk k n s c)) := e9
   subst e9
   replace h9 : a2.tmps[14]? = some _ := h9
   obtain ⟨u5, h5, e5⟩ := hd ⟨5, .guard⟩ (by simp) rfl
   replace e5 : u5 = .bool true := e5
   subst e5
   replace h5 : a2.tmps[10]? = some _ := h5
   refine RInv.enter (f := 35) (args := #[.map (some b7), .map (some b9)]) h hi rfl (wanted_at rfl rfl h5 rfl) (fun _ => trivial) (by intro c; simp) rfl (by simp [h7, h9, go_sem]) ?_
   refine (callsIn_wide.2 (disjoint_any _ _ _ _ _ _ V S7 S9)).mono ?_
   rintro e V2 ⟨rfl, hb9⟩
   rw [HD2.out]
   exact ⟨_, rfl, h.cw.trans (hb9.mono h.cw.size), fun j u hu => ESpecs.mono hb9 j u hu, rfl⟩
  refine AllFrom.cons (fun listed a2 V h hi hd => ?_) ?_
  ·obtain ⟨u5, h5, e5⟩ := hd ⟨5, .data⟩ (by simp) rfl
   replace e5 : u5 = .bool true := e5
   subst e5
   replace h5 : a2.tmps[10]? = some _ := h5
   obtain ⟨u10, h10, e10⟩ := hd ⟨10, .data⟩ (by simp) rfl
   replace e10 : u10 = .bool false := e10
   subst e10
   replace h10 : a2.tmps[15]? = some _ := h10
   exact RInv.pure (v := .bool false) h hi rfl (wanted_none rfl) (fun _ => trivial) (by intro c; simp) (by simp [execOp, h5, h10, go_sem]) rfl
  refine AllFrom.cons (fun listed a2 V h hi hd => ?_) ?_
  ·obtain ⟨u11, h11, e11⟩ := hd ⟨11, .data⟩ (by simp) rfl
   replace e11 : u11 = .bool false := e11
   subst e11
   replace h11 : a2.tmps[16]? = some _ := h11
   exact RInv.pure (v := .bool false) h hi rfl (wanted_none rfl) (fun _ => trivial) (by intro c; simp) (by simp [execOp, h11, go_sem]) rfl
  refine AllFrom.cons (fun listed a2 V h hi hd => ?_) ?_
  ·obtain ⟨u12, h12, e12⟩ := hd ⟨12, .guard⟩ (by simp) rfl
   replace e12 : u12 = .bool false := e12
   subst e12
   replace h12 : a2.tmps[17]? = some _ := h12
   exact RInv.skip h hi rfl (wanted_at rfl rfl h12 rfl) (fun _ => trivial) rfl
  refine AllFrom.cons (fun listed a2 V h hi hd => ?_) ?_
  ·obtain ⟨u13, h13, e13⟩ := hd ⟨13, .data⟩ (by simp) rfl
   replace e13 : u13 = undef := e13
   subst e13
   replace h13 : a2.tmps[18]? = some _ := h13
   obtain ⟨u12, h12, e12⟩ := hd ⟨12, .chain⟩ (by simp) rfl
   replace e12 : u12 = .bool false := e12
   subst e12
   replace h12 : a2.tmps[17]? = some _ := h12
   exact RInv.skip h hi rfl (wanted_at rfl rfl h12 rfl) (fun _ => trivial) rfl
  refine AllFrom.cons (fun listed a2 V h hi hd => ?_) ?_
  ·obtain ⟨u14, h14, e14⟩ := hd ⟨14, .data⟩ (by simp) rfl
   replace e14 : u14 = undef := e14
   subst e14
   replace h14 : a2.tmps[19]? = some _ := h14
   obtain ⟨u12, h12, e12⟩ := hd ⟨12, .guard⟩ (by simp) rfl
   replace e12 : u12 = .bool false := e12
   subst e12
   replace h12 : a2.tmps[17]? = some _ := h12
   exact RInv.skip h hi rfl (wanted_at rfl rfl h12 rfl) (fun _ => trivial) rfl
  refine AllFrom.cons (fun listed a2 V h hi hd => ?_) ?_
  ·obtain ⟨u15, h15, e15⟩ := hd ⟨15, .guard⟩ (by simp) rfl
   replace e15 : u15 = undef := e15
   subst e15
   replace h15 : a2.tmps[20]? = some _ := h15
   exact RInv.skip h hi rfl (wanted_undef rfl rfl h15) (fun _ => trivial) rfl
  refine AllFrom.cons (fun listed a2 V h hi hd => ?_) ?_
  ·obtain ⟨u16, h16, e16⟩ := hd ⟨16, .data⟩ (by simp) rfl
   replace e16 : u16 = undef := e16
   subst e16
   replace h16 : a2.tmps[21]? = some _ := h16
   obtain ⟨u15, h15, e15⟩ := hd ⟨15, .chain⟩ (by simp) rfl
   replace e15 : u15 = undef := e15
   subst e15
   replace h15 : a2.tmps[20]? = some _ := h15
   exact RInv.skip h hi rfl (wanted_undef rfl rfl h15) (fun _ => trivial) rfl
  refine AllFrom.cons (fun listed a2 V h hi hd => ?_) ?_
  ·obtain ⟨u15, h15, e15⟩ := hd ⟨15, .data⟩ (by simp) rfl
   replace e15 : u15 = undef := e15
   subst e15
   replace h15 : a2.tmps[20]? = some _ := h15
   obtain ⟨u17, h17, e17⟩ := hd ⟨17, .data⟩ (by simp) rfl
   replace e17 : u17 = undef := e17
   subst e17
   replace h17 : a2.tmps[22]? = some _ := h17
   obtain ⟨u12, h12, e12⟩ := hd ⟨12, .guard⟩ (by simp) rfl
   replace e12 : u12 = .bool false := e12
   subst e12
   replace h12 : a2.tmps[17]? = some _ := h12
   exact RInv.skip h hi rfl (wanted_at rfl rfl h12 rfl) (fun _ => trivial) rfl
  refine AllFrom.cons (fun listed a2 V h hi hd => ?_) ?_
  ·obtain ⟨u18, h18, e18⟩ := hd ⟨18, .data⟩ (by simp) rfl
   replace e18 : u18 = undef := e18
   subst e18
   replace h18 : a2.tmps[23]? = some _ := h18
   obtain ⟨u12, h12, e12⟩ := hd ⟨12, .guard⟩ (by simp) rfl
   replace e12 : u12 = .bool false := e12
   subst e12
   replace h12 : a2.tmps[17]? = some _ := h12
   exact RInv.skip h hi rfl (wanted_at rfl rfl h12 rfl) (fun _ => trivial) rfl
  refine AllFrom.cons (fun listed a2 V h hi hd => ?_) ?_
  ·obtain ⟨u12, h12, e12⟩ := hd ⟨12, .data⟩ (by simp) rfl
   replace e12 : u12 = .bool false := e12
   subst e12
   replace h12 : a2.tmps[17]? = some _ := h12
   obtain ⟨u19, h19, e19⟩ := hd ⟨19, .data⟩ (by simp) rfl
   replace e19 : u19 = undef := e19
   subst e19
   replace h19 : a2.tmps[24]? = some _ := h19
   exact RInv.pure (v := .bool false) h hi rfl (wanted_none rfl) (fun _ => trivial) (by intro c; simp) (by simp [execOp, h12, go_sem]) rfl
  refine AllFrom.cons (fun listed a2 V h hi hd => ?_) ?_
  ·obtain ⟨u20, h20, e20⟩ := hd ⟨20, .data⟩ (by simp) rfl
   replace e20 : u20 = .bool false := e20
   subst e20
   replace h20 : a2.tmps[25]? = some _ := h20
   exact RInv.pure (v := .bool false) h hi rfl (wanted_none rfl) (fun _ => trivial) (by intro c; simp) (by simp [execOp, h20, go_sem]) rfl
  exact trivial
 case fin =>
  rintro a2 V hV hs hdf hfx hph
  obtain ⟨u21, h21, e21⟩ := hph 21 (by omega)
  replace e21 : u21 = .bool false := e21
  subst e21
  replace h21 : a2.tmps[4]? = some _ := h21
  obtain ⟨tm, df⟩ := a2
  have hdf1 : df = [] := hdf
  subst hdf1
  have htm := tm_sets [5, 6, 7, 8, 9, 10, 11, 12, 13, 14, 15, 16, 17, 18, 19, 20, 21, 22, 23, 24, 25, 4] hs (fun t ht => hfx t (fun j hj e => ht (e ▸ (show ∀ j, j < 22 → (indS) j ∈ [5, 6, 7, 8, 9, 10, 11, 12, 13, 14, 15, 16, 17, 18, 19, 20, 21, 22, 23, 24, 25, 4] by decide) j hj)))
  simp only [List.foldl_cons, List.foldl_nil, List.setIfInBounds_toArray, List.set_cons_succ, List.set_cons_zero] at htm
  rw [show tm.getD 4 undef = .bool false from by simp only [Array.getD_eq_getD_getElem?, h21, Option.getD_some]] at htm
  clear hs hdf hfx hph h21
  generalize tm.getD 5 undef = y5 at htm
  generalize tm.getD 6 undef = y6 at htm
  generalize tm.getD 7 undef = y7 at htm
  generalize tm.getD 8 undef = y8 at htm
  generalize tm.getD 9 undef = y9 at htm
  generalize tm.getD 10 undef = y10 at htm
  generalize tm.getD 11 undef = y11 at htm
  generalize tm.getD 12 undef = y12 at htm
  generalize tm.getD 13 undef = y13 at htm
  generalize tm.getD 14 undef = y14 at htm
  generalize tm.getD 15 undef = y15 at htm
  generalize tm.getD 16 undef = y16 at htm
  generalize tm.getD 17 undef = y17 at htm
  generalize tm.getD 18 undef = y18 at htm
  generalize tm.getD 19 undef = y19 at htm
  generalize tm.getD 20 undef = y20 at htm
  generalize tm.getD 21 undef = y21 at htm
  generalize tm.getD 22 undef = y22 at htm
  generalize tm.getD 23 undef = y23 at htm
  generalize tm.getD 24 undef = y24 at htm
  generalize tm.getD 25 undef = y25 at htm
  subst htm
  have HV := Lib.hid hV
  clear hV
  go_wp2_with fail
  go_ret
  exact ⟨rfl, HBW.out.trans (HV.out.mono (by omega))⟩

set_option maxRecDepth 100000 in
set_option maxHeartbeats 4000000 in
theorem ind2 {tp : Tr → Bool} (hT : ∀ t : Tr, t.size ≤ 1000000 → Tests 36 tp t) (k n : Int) (s : ByteArray) (c : List Tr) (A : Option Addr) (cap : Nat) (k' n' : Int) (s' : ByteArray) (d : List Tr) (A2 : Option Addr) (cap2 : Nat) (w : World)
  (hr : Rep w w.heap.size (.mk k n s c) (.agg #[.int .u8 k, .int .i64 n, .string s, .slice A c.length cap])) (hr2 : Rep w w.heap.size (.mk k' n' s' d) (.agg #[.int .u8 k', .int .i64 n', .string s', .slice A2 d.length cap2])) (hsz : (Tr.mk k n s c).size ≤ 1000000) (hsz2 : (Tr.mk k' n' s' d).size ≤ 1000000) (hd1 : disj (writesT (.mk k n s c)) (readsT (.mk k' n' s' d)) = true) (hd2 : disj (writesT (.mk k' n' s' d)) (readsT (.mk k n s c)) = true) (hta : tp (.mk k n s c) = false) :
  Calls Tryz.prog 15 #[.agg #[.int .u8 k, .int .i64 n, .string s, .slice A c.length cap], .agg #[.int .u8 k', .int .i64 n', .string s', .slice A2 d.length cap2]] w fun e w' => e = .returned (.bool true) ∧ Below w.heap.size w w' := by
 have hmo : Tryz.prog.follows .mixedOrders = true := by kernel_rfl
 have hbw : Below w.heap.size w ((w.alloc (.cells #[.int .u8 k, .int .i64 n, .string s, .slice A c.length cap] 26)).alloc (.cells #[.int .u8 k', .int .i64 n', .string s', .slice A2 d.length cap2] 26)) := ((Below.refl _ w).alloc (Nat.le_refl _) _).alloc (by simp) _
 have HBW := Lib.hid hbw
 have HA := Lib.hid (hr.at_ (Nat.le_refl _) hbw)
 have HB := Lib.hid (hr2.at_ (Nat.le_refl _) hbw)
 have HSA := Lib.hid hsz
 have HSB := Lib.hid hsz2
 have HT := Lib.hid hT
 have hx : ((w.alloc (.cells #[.int .u8 k, .int .i64 n, .string s, .slice A c.length cap] 26)).alloc (.cells #[.int .u8 k', .int .i64 n', .string s', .slice A2 d.length cap2] 26)).heap[w.heap.size]? = some (.cells #[.int .u8 k, .int .i64 n, .string s, .slice A c.length cap] 26 (0, 0)) := (Below.heap_alloc _ _ _ (by simp)).trans (heap_new w _)
 have hy : ((w.alloc (.cells #[.int .u8 k, .int .i64 n, .string s, .slice A c.length cap] 26)).alloc (.cells #[.int .u8 k', .int .i64 n', .string s', .slice A2 d.length cap2] 26)).heap[w.heap.size + 1]? = some (.cells #[.int .u8 k', .int .i64 n', .string s', .slice A2 d.length cap2] 26 (0, 0)) := by have := heap_new (w.alloc (.cells #[.int .u8 k, .int .i64 n, .string s, .slice A c.length cap] 26)) (.cells #[.int .u8 k', .int .i64 n', .string s', .slice A2 d.length cap2] 26); simpa using this
 have hws : w.heap.size + 2 = ((w.alloc (.cells #[.int .u8 k, .int .i64 n, .string s, .slice A c.length cap] 26)).alloc (.cells #[.int .u8 k', .int .i64 n', .string s', .slice A2 d.length cap2] 26)).heap.size := by simp
 have HD1 := Lib.hid hd1
 have HD2 := Lib.hid hd2
 have HTA := Lib.hid hta
 clear hd1 hd2 hta
 clear hbw hr hr2 hsz hsz2 hT
 go_enter Tryz.func15, Tryz.ntmps15
 go_wp2_with fail
 generalize ((w.alloc (.cells #[.int .u8 k, .int .i64 n, .string s, .slice A c.length cap] 26)).alloc (.cells #[.int .u8 k', .int .i64 n', .string s', .slice A2 d.length cap2] 26)) = W0 at *
 have x0 : W0.cell? ⟨w.heap.size, 0, none⟩ = some (.int .u8 k) := cell_of_row _ _ 0 _ _ _ hx
 have x1 : W0.cell? ⟨w.heap.size, 1, none⟩ = some (.int .i64 n) := cell_of_row _ _ 1 _ _ _ hx
 have x2 : W0.cell? ⟨w.heap.size, 2, none⟩ = some (.string s) := cell_of_row _ _ 2 _ _ _ hx
 have x3 : W0.cell? ⟨w.heap.size, 3, none⟩ = some (.slice A c.length cap) := cell_of_row _ _ 3 _ _ _ hx
 have z0 : W0.cell? ⟨w.heap.size + 1, 0, none⟩ = some (.int .u8 k') := cell_of_row _ _ 0 _ _ _ hy
 have z1 : W0.cell? ⟨w.heap.size + 1, 1, none⟩ = some (.int .i64 n') := cell_of_row _ _ 1 _ _ _ hy
 have z2 : W0.cell? ⟨w.heap.size + 1, 2, none⟩ = some (.string s') := cell_of_row _ _ 2 _ _ _ hy
 have z3 : W0.cell? ⟨w.heap.size + 1, 3, none⟩ = some (.slice A2 d.length cap2) := cell_of_row _ _ 3 _ _ _ hy
 clear hx hy
 refine wpIn_wide (n := 0) |>.1 (region_all (N := 22) (s := indS) hmo rfl (by kernel_rfl) (fun V => Below W0.heap.size W0 V) (ESpecs [.is (.agg #[.int .u8 k, .int .i64 n, .string s, .slice A c.length cap]), .set (writesT (.mk k n s c)), .is (.agg #[.int .u8 k', .int .i64 n', .string s', .slice A2 d.length cap2]), .set (readsT (.mk k' n' s' d)), .is (.bool true), .is (.bool true), .is (.agg #[.int .u8 k', .int .i64 n', .string s', .slice A2 d.length cap2]), .set (writesT (.mk k' n' s' d)), .is (.agg #[.int .u8 k, .int .i64 n, .string s, .slice A c.length cap]), .set (readsT (.mk k n s c)), .is (.bool true), .is (.bool true), .is (.bool true), .is (.agg #[.int .u8 k, .int .i64 n, .string s, .slice A c.length cap]), .is (.bool false), .is (.bool false), .is undef, .is undef, .is (.bool false), .is (.bool true), .is (.bool true), .is (.bool true)]) (by intro j hj; simp only [indS]; simp; split <;> omega) (by intro i j _ _ e; simp only [indS] at e; split at e <;> split at e <;> omega) (Below.refl _ W0).drew ?steps ?fin)
 case steps =>
  show AllFrom _ 0 (_ :: _)
  refine AllFrom.cons (fun listed a2 V h hi hd => ?_) ?_
  ·have f2 : a2.tmps[2]? = some (.pointer (some ⟨w.heap.size, 0, none⟩)) := h.fixed 2 (by intro j hj; simp only [indS]; split <;> omega)
   have kc0 := (h.cw.cell (p := ⟨w.heap.size, 0, none⟩) (show w.heap.size < W0.heap.size by omega)).trans x0
   have kc1 := (h.cw.cell (p := ⟨w.heap.size, 1, none⟩) (show w.heap.size < W0.heap.size by omega)).trans x1
   have kc2 := (h.cw.cell (p := ⟨w.heap.size, 2, none⟩) (show w.heap.size < W0.heap.size by omega)).trans x2
   have kc3 := (h.cw.cell (p := ⟨w.heap.size, 3, none⟩) (show w.heap.size < W0.heap.size by omega)).trans x3
   exact RInv.pure (v := .agg #[.int .u8 k, .int .i64 n, .string s, .slice A c.length cap]) h hi rfl (wanted_none rfl) (fun _ => trivial) (by intro c; simp) (by simp [execOp, f2, kc0, kc1, kc2, kc3, go_sem]) rfl
  refine AllFrom.cons (fun listed a2 V h hi hd => ?_) ?_
  ·obtain ⟨u0, h0, e0⟩ := hd ⟨0, .data⟩ (by simp) rfl
   replace e0 : u0 = .agg #[.int .u8 k, .int .i64 n, .string s, .slice A c.length cap] := e0
   subst e0
   replace h0 : a2.tmps[5]? = some _ := h0
   refine RInv.enter (f := 34) (args := #[.agg #[.int .u8 k, .int .i64 n, .string s, .slice A c.length cap]]) h hi rfl (wanted_none rfl) (fun _ => trivial) (by intro c; simp) rfl (by simp [h0, go_sem]) ?_
   refine (callsIn_wide.2 (writes_any _ _ _ (HA.out.at_ (Nat.le_refl _) h.cw) HSA.out)).mono ?_
   rintro e V2 ⟨b9, rfl, _, hs9, hb9⟩
   exact ⟨_, rfl, h.cw.trans (hb9.mono h.cw.size), fun j u hu => ESpecs.mono hb9 j u hu, ⟨_, _, rfl, hs9⟩⟩
  refine AllFrom.cons (fun listed a2 V h hi hd => ?_) ?_
  ·have f3 : a2.tmps[3]? = some (.pointer (some ⟨w.heap.size + 1, 0, none⟩)) := h.fixed 3 (by intro j hj; simp only [indS]; split <;> omega)
   have kc0 := (h.cw.cell (p := ⟨w.heap.size + 1, 0, none⟩) (show w.heap.size + 1 < W0.heap.size by omega)).trans z0
   have kc1 := (h.cw.cell (p := ⟨w.heap.size + 1, 1, none⟩) (show w.heap.size + 1 < W0.heap.size by omega)).trans z1
   have kc2 := (h.cw.cell (p := ⟨w.heap.size + 1, 2, none⟩) (show w.heap.size + 1 < W0.heap.size by omega)).trans z2
   have kc3 := (h.cw.cell (p := ⟨w.heap.size + 1, 3, none⟩) (show w.heap.size + 1 < W0.heap.size by omega)).trans z3
   exact RInv.pure (v := .agg #[.int .u8 k', .int .i64 n', .string s', .slice A2 d.length cap2]) h hi rfl (wanted_none rfl) (fun _ => trivial) (by intro c; simp) (by simp [execOp, f3, kc0, kc1, kc2, kc3, go_sem]) rfl
  refine AllFrom.cons (fun listed a2 V h hi hd => ?_) ?_
  ·obtain ⟨u2, h2, e2⟩ := hd ⟨2, .data⟩ (by simp) rfl
   replace e2 : u2 = .agg #[.int .u8 k', .int .i64 n', .string s', .slice A2 d.length cap2] := e2
   subst e2
   replace h2 : a2.tmps[7]? = some _ := h2
   refine RInv.enter (f := 28) (args := #[.agg #[.int .u8 k', .int .i64 n', .string s', .slice A2 d.length cap2]]) h hi rfl (wanted_none rfl) (fun _ => trivial) (by intro c; simp) rfl (by simp [h2, go_sem]) ?_
   refine (callsIn_wide.2 (reads_any _ _ _ (HB.out.at_ (Nat.le_refl _) h.cw) HSB.out)).mono ?_
   rintro e V2 ⟨b9, rfl, _, hs9, hb9⟩
   exact ⟨_, rfl, h.cw.trans (hb9.mono h.cw.size), fun j u hu => ESpecs.mono hb9 j u hu, ⟨_, _, rfl, hs9⟩⟩
  refine AllFrom.cons (fun listed a2 V h hi hd => ?_) ?_
  ·obtain ⟨u1, h1, e1⟩ := hd ⟨1, .data⟩ (by simp) rfl
   obtain ⟨b1, n1, e1, S1⟩ : ∃ bb nn, u1 = .map (some bb) ∧ SetW V bb nn (writesT (.mk k n s c)) := e1
   subst e1
   replace h1 : a2.tmps[6]? = some _ := h1
   obtain ⟨u3, h3, e3⟩ := hd ⟨3, .data⟩ (by simp) rfl
   obtain ⟨b3, n3, e3, S3⟩ : ∃ bb nn, u3 = .map (some bb) ∧ SetW V bb nn (readsT (.mk k' n' s' d)) := e3
   subst e3
   replace h3 : a2.tmps[8]? = some _ := h3
   refine RInv.enter (f := 35) (args := #[.map (some b1), .map (some b3)]) h hi rfl (wanted_none rfl) (fun _ => trivial) (by intro c; simp) rfl (by simp [h1, h3, go_sem]) ?_
   refine (callsIn_wide.2 (disjoint_any _ _ _ _ _ _ V S1 S3)).mono ?_
   rintro e V2 ⟨rfl, hb9⟩
   rw [HD1.out]
   exact ⟨_, rfl, h.cw.trans (hb9.mono h.cw.size), fun j u hu => ESpecs.mono hb9 j u hu, rfl⟩
  refine AllFrom.cons (fun listed a2 V h hi hd => ?_) ?_
  ·obtain ⟨u4, h4, e4⟩ := hd ⟨4, .data⟩ (by simp) rfl
   replace e4 : u4 = .bool true := e4
   subst e4
   replace h4 : a2.tmps[9]? = some _ := h4
   exact RInv.pure (v := .bool true) h hi rfl (wanted_none rfl) (fun _ => trivial) (by intro c; simp) (by simp [execOp, h4, go_sem]) rfl
  refine AllFrom.cons (fun listed a2 V h hi hd => ?_) ?_
  ·obtain ⟨u5, h5, e5⟩ := hd ⟨5, .guard⟩ (by simp) rfl
   replace e5 : u5 = .bool true := e5
   subst e5
   replace h5 : a2.tmps[10]? = some _ := h5
   have f3 : a2.tmps[3]? = some (.pointer (some ⟨w.heap.size + 1, 0, none⟩)) := h.fixed 3 (by intro j hj; simp only [indS]; split <;> omega)
   have kc0 := (h.cw.cell (p := ⟨w.heap.size + 1, 0, none⟩) (show w.heap.size + 1 < W0.heap.size by omega)).trans z0
   have kc1 := (h.cw.cell (p := ⟨w.heap.size + 1, 1, none⟩) (show w.heap.size + 1 < W0.heap.size by omega)).trans z1
   have kc2 := (h.cw.cell (p := ⟨w.heap.size + 1, 2, none⟩) (show w.heap.size + 1 < W0.heap.size by omega)).trans z2
   have kc3 := (h.cw.cell (p := ⟨w.heap.size + 1, 3, none⟩) (show w.heap.size + 1 < W0.heap.size by omega)).trans z3
   exact RInv.pure (v := .agg #[.int .u8 k', .int .i64 n', .string s', .slice A2 d.length cap2]) h hi rfl (wanted_at rfl rfl h5 rfl) (fun _ => trivial) (by intro c; simp) (by simp [execOp, f3, kc0, kc1, kc2, kc3, go_sem]) rfl
  refine AllFrom.cons (fun listed a2 V h hi hd => ?_) ?_
  ·obtain ⟨u6, h6, e6⟩ := hd ⟨6, .data⟩ (by simp) rfl
   replace e6 : u6 = .agg #[.int .u8 k', .int .i64 n', .string s', .slice A2 d.length cap2] := e6
   subst e6
   replace h6 : a2.tmps[11]? = some _ := h6
   obtain ⟨u5, h5, e5⟩ := hd ⟨5, .chain⟩ (by simp) rfl
   replace e5 : u5 = .bool true := e5
   subst e5
   replace h5 : a2.tmps[10]? = some _ := h5
   refine RInv.enter (f := 34) (args := #[.agg #[.int .u8 k', .int .i64 n', .string s', .slice A2 d.length cap2]]) h hi rfl (wanted_at rfl rfl h5 rfl) (fun _ => trivial) (by intro c; simp) rfl (by simp [h6, go_sem]) ?_
   refine (callsIn_wide.2 (writes_any _ _ _ (HB.out.at_ (Nat.le_refl _) h.cw) HSB.out)).mono ?_
   rintro e V2 ⟨b9, rfl, _, hs9, hb9⟩
   exact ⟨_, rfl, h.cw.trans (hb9.mono h.cw.size), fun j u hu => ESpecs.mono hb9 j u hu, ⟨_, _, rfl, hs9⟩⟩
  refine AllFrom.cons (fun listed a2 V h hi hd => ?_) ?_
  ·obtain ⟨u5, h5, e5⟩ := hd ⟨5, .guard⟩ (by simp) rfl
   replace e5 : u5 = .bool true := e5
   subst e5
   replace h5 : a2.tmps[10]? = some _ := h5
   have f2 : a2.tmps[2]? = some (.pointer (some ⟨w.heap.size, 0, none⟩)) := h.fixed 2 (by intro j hj; simp only [indS]; split <;> omega)
   have kc0 := (h.cw.cell (p := ⟨w.heap.size, 0, none⟩) (show w.heap.size < W0.heap.size by omega)).trans x0
   have kc1 := (h.cw.cell (p := ⟨w.heap.size, 1, none⟩) (show w.heap.size < W0.heap.size by omega)).trans x1
   have kc2 := (h.cw.cell (p := ⟨w.heap.size, 2, none⟩) (show w.heap.size < W0.heap.size by omega)).trans x2
   have kc3 := (h.cw.cell (p := ⟨w.heap.size, 3, none⟩) (show w.heap.size < W0.heap.size by omega)).trans x3
   exact RInv.pure (v := .agg #[.int .u8 k, .int .i64 n, .string s, .slice A c.length cap]) h hi rfl (wanted_at rfl rfl h5 rfl) (fun _ => trivial) (by intro c; simp) (by simp [execOp, f2, kc0, kc1, kc2, kc3, go_sem]) rfl
  refine AllFrom.cons (fun listed a2 V h hi hd => ?_) ?_
  ·obtain ⟨u8, h8, e8⟩ := hd ⟨8, .data⟩ (by simp) rfl
   replace e8 : u8 = .agg #[.int .u8 k, .int .i64 n, .string s, .slice A c.length cap] := e8
   subst e8
   replace h8 : a2.tmps[13]? = some _ := h8
   obtain ⟨u5, h5, e5⟩ := hd ⟨5, .guard⟩ (by simp) rfl
   replace e5 : u5 = .bool true := e5
   subst e5
   replace h5 : a2.tmps[10]? = some _ := h5
   refine RInv.enter (f := 28) (args := #[.agg #[.int .u8 k, .int .i64 n, .string s, .slice A c.length cap]]) h hi rfl (wanted_at rfl rfl h5 rfl) (fun _ => trivial) (by intro c; simp) rfl (by simp [h8, go_sem]) ?_
   refine (callsIn_wide.2 (reads_any _ _ _ (HA.out.at_ (Nat.le_refl _) h.cw) HSA.out)).mono ?_
   rintro e V2 ⟨b9, rfl, _, hs9, hb9⟩
   exact ⟨_, rfl, h.cw.trans (hb9.mono h.cw.size), fun j u hu => ESpecs.mono hb9 j u hu, ⟨_, _, rfl, hs9⟩⟩
  refine AllFrom.cons (fun listed a2 V h hi hd => ?_) ?_
  ·obtain ⟨u7, h7, e7⟩ := hd ⟨7, .data⟩ (by simp) rfl
   obtain ⟨b7, n7, e7, S7⟩ : ∃ bb nn, u7 = .map (some bb) ∧ SetW V bb nn (writesT (.mk k' n' s' d)) := e7
   subst e7
   replace h7 : a2.tmps[12]? = some _ := h7
   obtain ⟨u9, h9, e9⟩ := hd ⟨9, .data⟩ (by simp) rfl
   obtain ⟨b9, n9, e9, S9⟩ : ∃ bb nn, u9 = .map (some bb) ∧ SetW V bb nn (readsT (.mk k n s c)) := e9
   subst e9
   replace h9 : a2.tmps[14]? = some _ := h9
   obtain ⟨u5, h5, e5⟩ := hd ⟨5, .guard⟩ (by simp) rfl
   replace e5 : u5 = .bool true := e5
   subst e5
   replace h5 : a2.tmps[10]? = some _ := h5
   refine RInv.enter (f := 35) (args := #[.map (some b7), .map (some b9)]) h hi rfl (wanted_at rfl rfl h5 rfl) (fun _ => trivial) (by intro c; simp) rfl (by simp [h7, h9, go_sem]) ?_
   refine (callsIn_wide.2 (disjoint_any _ _ _ _ _ _ V S7 S9)).mono ?_
   rintro e V2 ⟨rfl, hb9⟩
   rw [HD2.out]
   exact ⟨_, rfl, h.cw.trans (hb9.mono h.cw.size), fun j u hu => ESpecs.mono hb9 j u hu, rfl⟩
  refine AllFrom.cons (fun listed a2 V h hi hd => ?_) ?_
  ·obtain ⟨u5, h5, e5⟩ := hd ⟨5, .data⟩ (by simp) rfl
   replace e5 : u5 = .bool true := e5
   subst e5
   replace h5 : a2.tmps[10]? = some _ := h5
   obtain ⟨u10, h10, e10⟩ := hd ⟨10, .data⟩ (by simp) rfl
   replace e10 : u10 = .bool true := e10
   subst e10
   replace h10 : a2.tmps[15]? = some _ := h10
   exact RInv.pure (v := .bool true) h hi rfl (wanted_none rfl) (fun _ => trivial) (by intro c; simp) (by simp [execOp, h5, h10, go_sem]) rfl
  refine AllFrom.cons (fun listed a2 V h hi hd => ?_) ?_
  ·obtain ⟨u11, h11, e11⟩ := hd ⟨11, .data⟩ (by simp) rfl
   replace e11 : u11 = .bool true := e11
   subst e11
   replace h11 : a2.tmps[16]? = some _ := h11
   exact RInv.pure (v := .bool true) h hi rfl (wanted_none rfl) (fun _ => trivial) (by intro c; simp) (by simp [execOp, h11, go_sem]) rfl
  refine AllFrom.cons (fun listed a2 V h hi hd => ?_) ?_
  ·obtain ⟨u12, h12, e12⟩ := hd ⟨12, .guard⟩ (by simp) rfl
   replace e12 : u12 = .bool true := e12
   subst e12
   replace h12 : a2.tmps[17]? = some _ := h12
   have f2 : a2.tmps[2]? = some (.pointer (some ⟨w.heap.size, 0, none⟩)) := h.fixed 2 (by intro j hj; simp only [indS]; split <;> omega)
   have kc0 := (h.cw.cell (p := ⟨w.heap.size, 0, none⟩) (show w.heap.size < W0.heap.size by omega)).trans x0
   have kc1 := (h.cw.cell (p := ⟨w.heap.size, 1, none⟩) (show w.heap.size < W0.heap.size by omega)).trans x1
   have kc2 := (h.cw.cell (p := ⟨w.heap.size, 2, none⟩) (show w.heap.size < W0.heap.size by omega)).trans x2
   have kc3 := (h.cw.cell (p := ⟨w.heap.size, 3, none⟩) (show w.heap.size < W0.heap.size by omega)).trans x3
   exact RInv.pure (v := .agg #[.int .u8 k, .int .i64 n, .string s, .slice A c.length cap]) h hi rfl (wanted_at rfl rfl h12 rfl) (fun _ => trivial) (by intro c; simp) (by simp [execOp, f2, kc0, kc1, kc2, kc3, go_sem]) rfl
  refine AllFrom.cons (fun listed a2 V h hi hd => ?_) ?_
  ·obtain ⟨u13, h13, e13⟩ := hd ⟨13, .data⟩ (by simp) rfl
   replace e13 : u13 = .agg #[.int .u8 k, .int .i64 n, .string s, .slice A c.length cap] := e13
   subst e13
   replace h13 : a2.tmps[18]? = some _ := h13
   obtain ⟨u12, h12, e12⟩ := hd ⟨12, .chain⟩ (by simp) rfl
   replace e12 : u12 = .bool true := e12
   subst e12
   replace h12 : a2.tmps[17]? = some _ := h12
   refine RInv.enter (f := 36) (args := #[.agg #[.int .u8 k, .int .i64 n, .string s, .slice A c.length cap]]) h hi rfl (wanted_at rfl rfl h12 rfl) (fun _ => trivial) (by intro c; simp) rfl (by simp [h13, go_sem]) ?_
   refine (callsIn_wide.2 (HT.out _ HSA.out _ _ (HA.out.at_ (Nat.le_refl _) h.cw))).mono ?_
   rintro e V2 ⟨rfl, hb9⟩
   rw [HTA.out]
   exact ⟨_, rfl, h.cw.trans (hb9.mono h.cw.size), fun j u hu => ESpecs.mono hb9 j u hu, rfl⟩
  refine AllFrom.cons (fun listed a2 V h hi hd => ?_) ?_
  ·obtain ⟨u14, h14, e14⟩ := hd ⟨14, .data⟩ (by simp) rfl
   replace e14 : u14 = .bool false := e14
   subst e14
   replace h14 : a2.tmps[19]? = some _ := h14
   obtain ⟨u12, h12, e12⟩ := hd ⟨12, .guard⟩ (by simp) rfl
   replace e12 : u12 = .bool true := e12
   subst e12
   replace h12 : a2.tmps[17]? = some _ := h12
   exact RInv.pure (v := .bool false) h hi rfl (wanted_at rfl rfl h12 rfl) (fun _ => trivial) (by intro c; simp) (by simp [execOp, h14, go_sem]) rfl
  refine AllFrom.cons (fun listed a2 V h hi hd => ?_) ?_
  ·obtain ⟨u15, h15, e15⟩ := hd ⟨15, .guard⟩ (by simp) rfl
   replace e15 : u15 = .bool false := e15
   subst e15
   replace h15 : a2.tmps[20]? = some _ := h15
   exact RInv.skip h hi rfl (wanted_at rfl rfl h15 rfl) (fun _ => trivial) rfl
  refine AllFrom.cons (fun listed a2 V h hi hd => ?_) ?_
  ·obtain ⟨u16, h16, e16⟩ := hd ⟨16, .data⟩ (by simp) rfl
   replace e16 : u16 = undef := e16
   subst e16
   replace h16 : a2.tmps[21]? = some _ := h16
   obtain ⟨u15, h15, e15⟩ := hd ⟨15, .chain⟩ (by simp) rfl
   replace e15 : u15 = .bool false := e15
   subst e15
   replace h15 : a2.tmps[20]? = some _ := h15
   exact RInv.skip h hi rfl (wanted_at rfl rfl h15 rfl) (fun _ => trivial) rfl
  refine AllFrom.cons (fun listed a2 V h hi hd => ?_) ?_
  ·obtain ⟨u15, h15, e15⟩ := hd ⟨15, .data⟩ (by simp) rfl
   replace e15 : u15 = .bool false := e15
   subst e15
   replace h15 : a2.tmps[20]? = some _ := h15
   obtain ⟨u17, h17, e17⟩ := hd ⟨17, .data⟩ (by simp) rfl
   replace e17 : u17 = undef := e17
   subst e17
   replace h17 : a2.tmps[22]? = some _ := h17
   obtain ⟨u12, h12, e12⟩ := hd ⟨12, .guard⟩ (by simp) rfl
   replace e12 : u12 = .bool true := e12
   subst e12
   replace h12 : a2.tmps[17]? = some _ := h12
   exact RInv.pure (v := .bool false) h hi rfl (wanted_at rfl rfl h12 rfl) (fun _ => trivial) (by intro c; simp) (by simp [execOp, h15, go_sem]) rfl
  refine AllFrom.cons (fun listed a2 V h hi hd => ?_) ?_
  ·obtain ⟨u18, h18, e18⟩ := hd ⟨18, .data⟩ (by simp) rfl
   replace e18 : u18 = .bool false := e18
   subst e18
   replace h18 : a2.tmps[23]? = some _ := h18
   obtain ⟨u12, h12, e12⟩ := hd ⟨12, .guard⟩ (by simp) rfl
   replace e12 : u12 = .bool true := e12
   subst e12
   replace h12 : a2.tmps[17]? = some _ := h12
   exact RInv.pure (v := .bool true) h hi rfl (wanted_at rfl rfl h12 rfl) (fun _ => trivial) (by intro c; simp) (by simp [execOp, h18, go_sem]) rfl
  refine AllFrom.cons (fun listed a2 V h hi hd => ?_) ?_
  ·obtain ⟨u12, h12, e12⟩ := hd ⟨12, .data⟩ (by simp) rfl
   replace e12 : u12 = .bool true := e12
   subst e12
   replace h12 : a2.tmps[17]? = some _ := h12
   obtain ⟨u19, h19, e19⟩ := hd ⟨19, .data⟩ (by simp) rfl
   replace e19 : u19 = .bool true := e19
   subst e19
   replace h19 : a2.tmps[24]? = some _ := h19
   exact RInv.pure (v := .bool true) h hi rfl (wanted_none rfl) (fun _ => trivial) (by intro c; simp) (by simp [execOp, h12, h19, go_sem]) rfl
  refine AllFrom.cons (fun listed a2 V h hi hd => ?_) ?_
  ·obtain ⟨u20, h20, e20⟩ := hd ⟨20, .data⟩ (by simp) rfl
   replace e20 : u20 = .bool true := e20
   subst e20
   replace h20 : a2.tmps[25]? = some _ := h20
   exact RInv.pure (v := .bool true) h hi rfl (wanted_none rfl) (fun _ => trivial) (by intro c; simp) (by simp [execOp, h20, go_sem]) rfl
  exact trivial
 case fin =>
  rintro a2 V hV hs hdf hfx hph
  obtain ⟨u21, h21, e21⟩ := hph 21 (by omega)
  replace e21 : u21 = .bool true := e21
  subst e21
  replace h21 : a2.tmps[4]? = some _ := h21
  obtain ⟨tm, df⟩ := a2
  have hdf1 : df = [] := hdf
  subst hdf1
  have htm := tm_sets [5, 6, 7, 8, 9, 10, 11, 12, 13, 14, 15, 16, 17, 18, 19, 20, 21, 22, 23, 24, 25, 4] hs (fun t ht => hfx t (fun j hj e => ht (e ▸ (show ∀ j, j < 22 → (indS) j ∈ [5, 6, 7, 8, 9, 10, 11, 12, 13, 14, 15, 16, 17, 18, 19, 20, 21, 22, 23, 24, 25, 4] by decide) j hj)))
  simp only [List.foldl_cons, List.foldl_nil, List.setIfInBounds_toArray, List.set_cons_succ, List.set_cons_zero] at htm
  rw [show tm.getD 4 undef = .bool true from by simp only [Array.getD_eq_getD_getElem?, h21, Option.getD_some]] at htm
  clear hs hdf hfx hph h21
  generalize tm.getD 5 undef = y5 at htm
  generalize tm.getD 6 undef = y6 at htm
  generalize tm.getD 7 undef = y7 at htm
  generalize tm.getD 8 undef = y8 at htm
  generalize tm.getD 9 undef = y9 at htm
  generalize tm.getD 10 undef = y10 at htm
  generalize tm.getD 11 undef = y11 at htm
  generalize tm.getD 12 undef = y12 at htm
  generalize tm.getD 13 undef = y13 at htm
  generalize tm.getD 14 undef = y14 at htm
  generalize tm.getD 15 undef = y15 at htm
  generalize tm.getD 16 undef = y16 at htm
  generalize tm.getD 17 undef = y17 at htm
  generalize tm.getD 18 undef = y18 at htm
  generalize tm.getD 19 undef = y19 at htm
  generalize tm.getD 20 undef = y20 at htm
  generalize tm.getD 21 undef = y21 at htm
  generalize tm.getD 22 undef = y22 at htm
  generalize tm.getD 23 undef = y23 at htm
  generalize tm.getD 24 undef = y24 at htm
  generalize tm.getD 25 undef = y25 at htm
  subst htm
  have HV := Lib.hid hV
  clear hV
  go_wp2_with fail
  go_ret
  exact ⟨rfl, HBW.out.trans (HV.out.mono (by omega))⟩

set_option maxRecDepth 100000 in
set_option maxHeartbeats 4000000 in
theorem ind3 {tp : Tr → Bool} (hT : ∀ t : Tr, t.size ≤ 1000000 → Tests 36 tp t) (k n : Int) (s : ByteArray) (c : List Tr) (A : Option Addr) (cap : Nat) (k' n' : Int) (s' : ByteArray) (d : List Tr) (A2 : Option Addr) (cap2 : Nat) (w : World)
  (hr : Rep w w.heap.size (.mk k n s c) (.agg #[.int .u8 k, .int .i64 n, .string s, .slice A c.length cap])) (hr2 : Rep w w.heap.size (.mk k' n' s' d) (.agg #[.int .u8 k', .int .i64 n', .string s', .slice A2 d.length cap2])) (hsz : (Tr.mk k n s c).size ≤ 1000000) (hsz2 : (Tr.mk k' n' s' d).size ≤ 1000000) (hd1 : disj (writesT (.mk k n s c)) (readsT (.mk k' n' s' d)) = true) (hd2 : disj (writesT (.mk k' n' s' d)) (readsT (.mk k n s c)) = true) (hta : tp (.mk k n s c) = true) (htb : tp (.mk k' n' s' d) = false) :
  Calls Tryz.prog 15 #[.agg #[.int .u8 k, .int .i64 n, .string s, .slice A c.length cap], .agg #[.int .u8 k', .int .i64 n', .string s', .slice A2 d.length cap2]] w fun e w' => e = .returned (.bool true) ∧ Below w.heap.size w w' := by
 have hmo : Tryz.prog.follows .mixedOrders = true := by kernel_rfl
 have hbw : Below w.heap.size w ((w.alloc (.cells #[.int .u8 k, .int .i64 n, .string s, .slice A c.length cap] 26)).alloc (.cells #[.int .u8 k', .int .i64 n', .string s', .slice A2 d.length cap2] 26)) := ((Below.refl _ w).alloc (Nat.le_refl _) _).alloc (by simp) _
 have HBW := Lib.hid hbw
 have HA := Lib.hid (hr.at_ (Nat.le_refl _) hbw)
 have HB := Lib.hid (hr2.at_ (Nat.le_refl _) hbw)
 have HSA := Lib.hid hsz
 have HSB := Lib.hid hsz2
 have HT := Lib.hid hT
 have hx : ((w.alloc (.cells #[.int .u8 k, .int .i64 n, .string s, .slice A c.length cap] 26)).alloc (.cells #[.int .u8 k', .int .i64 n', .string s', .slice A2 d.length cap2] 26)).heap[w.heap.size]? = some (.cells #[.int .u8 k, .int .i64 n, .string s, .slice A c.length cap] 26 (0, 0)) := (Below.heap_alloc _ _ _ (by simp)).trans (heap_new w _)
 have hy : ((w.alloc (.cells #[.int .u8 k, .int .i64 n, .string s, .slice A c.length cap] 26)).alloc (.cells #[.int .u8 k', .int .i64 n', .string s', .slice A2 d.length cap2] 26)).heap[w.heap.size + 1]? = some (.cells #[.int .u8 k', .int .i64 n', .string s', .slice A2 d.length cap2] 26 (0, 0)) := by have := heap_new (w.alloc (.cells #[.int .u8 k, .int .i64 n, .string s, .slice A c.length cap] 26)) (.cells #[.int .u8 k', .int .i64 n', .string s', .slice A2 d.length cap2] 26); simpa using this
 have hws : w.heap.size + 2 = ((w.alloc (.cells #[.int .u8 k, .int .i64 n, .string s, .slice A c.length cap] 26)).alloc (.cells #[.int .u8 k', .int .i64 n', .string s', .slice A2 d.length cap2] 26)).heap.size := by simp
 have HD1 := Lib.hid hd1
 have HD2 := Lib.hid hd2
 have HTA := Lib.hid hta
 have HTB := Lib.hid htb
 clear hd1 hd2 hta htb
 clear hbw hr hr2 hsz hsz2 hT
 go_enter Tryz.func15, Tryz.ntmps15
 go_wp2_with fail
 generalize ((w.alloc (.cells #[.int .u8 k, .int .i64 n, .string s, .slice A c.length cap] 26)).alloc (.cells #[.int .u8 k', .int .i64 n', .string s', .slice A2 d.length cap2] 26)) = W0 at *
 have x0 : W0.cell? ⟨w.heap.size, 0, none⟩ = some (.int .u8 k) := cell_of_row _ _ 0 _ _ _ hx
 have x1 : W0.cell? ⟨w.heap.size, 1, none⟩ = some (.int .i64 n) := cell_of_row _ _ 1 _ _ _ hx
 have x2 : W0.cell? ⟨w.heap.size, 2, none⟩ = some (.string s) := cell_of_row _ _ 2 _ _ _ hx
 have x3 : W0.cell? ⟨w.heap.size, 3, none⟩ = some (.slice A c.length cap) := cell_of_row _ _ 3 _ _ _ hx
 have z0 : W0.cell? ⟨w.heap.size + 1, 0, none⟩ = some (.int .u8 k') := cell_of_row _ _ 0 _ _ _ hy
 have z1 : W0.cell? ⟨w.heap.size + 1, 1, none⟩ = some (.int .i64 n') := cell_of_row _ _ 1 _ _ _ hy
 have z2 : W0.cell? ⟨w.heap.size + 1, 2, none⟩ = some (.string s') := cell_of_row _ _ 2 _ _ _ hy
 have z3 : W0.cell? ⟨w.heap.size + 1, 3, none⟩ = some (.slice A2 d.length cap2) := cell_of_row _ _ 3 _ _ _ hy
 clear hx hy
 refine wpIn_wide (n := 0) |>.1 (region_all (N := 22) (s := indS) hmo rfl (by kernel_rfl) (fun V => Below W0.heap.size W0 V) (ESpecs [.is (.agg #[.int .u8 k, .int .i64 n, .string s, .slice A c.length cap]), .set (writesT (.mk k n s c)), .is (.agg #[.int .u8 k', .int .i64 n', .string s', .slice A2 d.length cap2]), .set (readsT (.mk k' n' s' d)), .is (.bool true), .is (.bool true), .is (.agg #[.int .u8 k', .int .i64 n', .string s', .slice A2 d.length cap2]), .set (writesT (.mk k' n' s' d)), .is (.agg #[.int .u8 k, .int .i64 n, .string s, .slice A c.length cap]), .set (readsT (.mk k n s c)), .is (.bool true), .is (.bool true), .is (.bool true), .is (.agg #[.int .u8 k, .int .i64 n, .string s, .slice A c.length cap]), .is (.bool true), .is (.bool true), .is (.agg #[.int .u8 k', .int .i64 n', .string s', .slice A2 d.length cap2]), .is (.bool false), .is (.bool false), .is (.bool true), .is (.bool true), .is (.bool true)]) (by intro j hj; simp only [indS]; simp; split <;> omega) (by intro i j _ _ e; simp only [indS] at e; split at e <;> split at e <;> omega) (Below.refl _ W0).drew ?steps ?fin)
 case steps =>
  show AllFrom _ 0 (_ :: _)
  refine AllFrom.cons (fun listed a2 V h hi hd => ?_) ?_
  ·have f2 : a2.tmps[2]? = some (.pointer (some ⟨w.heap.size, 0, none⟩)) := h.fixed 2 (by intro j hj; simp only [indS]; split <;> omega)
   have kc0 := (h.cw.cell (p := ⟨w.heap.size, 0, none⟩) (show w.heap.size < W0.heap.size by omega)).trans x0
   have kc1 := (h.cw.cell (p := ⟨w.heap.size, 1, none⟩) (show w.heap.size < W0.heap.size by omega)).trans x1
   have kc2 := (h.cw.cell (p := ⟨w.heap.size, 2, none⟩) (show w.heap.size < W0.heap.size by omega)).trans x2
   have kc3 := (h.cw.cell (p := ⟨w.heap.size, 3, none⟩) (show w.heap.size < W0.heap.size by omega)).trans x3
   exact RInv.pure (v := .agg #[.int .u8 k, .int .i64 n, .string s, .slice A c.length cap]) h hi rfl (wanted_none rfl) (fun _ => trivial) (by intro c; simp) (by simp [execOp, f2, kc0, kc1, kc2, kc3, go_sem]) rfl
  refine AllFrom.cons (fun listed a2 V h hi hd => ?_) ?_
  ·obtain ⟨u0, h0, e0⟩ := hd ⟨0, .data⟩ (by simp) rfl
   replace e0 : u0 = .agg #[.int .u8 k, .int .i64 n, .string s, .slice A c.length cap] := e0
   subst e0
   replace h0 : a2.tmps[5]? = some _ := h0
   refine RInv.enter (f := 34) (args := #[.agg #[.int .u8 k, .int .i64 n, .string s, .slice A c.length cap]]) h hi rfl (wanted_none rfl) (fun _ => trivial) (by intro c; simp) rfl (by simp [h0, go_sem]) ?_
   refine (callsIn_wide.2 (writes_any _ _ _ (HA.out.at_ (Nat.le_refl _) h.cw) HSA.out)).mono ?_
   rintro e V2 ⟨b9, rfl, _, hs9, hb9⟩
   exact ⟨_, rfl, h.cw.trans (hb9.mono h.cw.size), fun j u hu => ESpecs.mono hb9 j u hu, ⟨_, _, rfl, hs9⟩⟩
  refine AllFrom.cons (fun listed a2 V h hi hd => ?_) ?_
  ·have f3 : a2.tmps[3]? = some (.pointer (some ⟨w.heap.size + 1, 0, none⟩)) := h.fixed 3 (by intro j hj; simp only [indS]; split <;> omega)
   have kc0 := (h.cw.cell (p := ⟨w.heap.size + 1, 0, none⟩) (show w.heap.size + 1 < W0.heap.size by omega)).trans z0
   have kc1 := (h.cw.cell (p := ⟨w.heap.size + 1, 1, none⟩) (show w.heap.size + 1 < W0.heap.size by omega)).trans z1
   have kc2 := (h.cw.cell (p := ⟨w.heap.size + 1, 2, none⟩) (show w.heap.size + 1 < W0.heap.size by omega)).trans z2
   have kc3 := (h.cw.cell (p := ⟨w.heap.size + 1, 3, none⟩) (show w.heap.size + 1 < W0.heap.size by omega)).trans z3
   exact RInv.pure (v := .agg #[.int .u8 k', .int .i64 n', .string s', .slice A2 d.length cap2]) h hi rfl (wanted_none rfl) (fun _ => trivial) (by intro c; simp) (by simp [execOp, f3, kc0, kc1, kc2, kc3, go_sem]) rfl
  refine AllFrom.cons (fun listed a2 V h hi hd => ?_) ?_
  ·obtain ⟨u2, h2, e2⟩ := hd ⟨2, .data⟩ (by simp) rfl
   replace e2 : u2 = .agg #[.int .u8 k', .int .i64 n', .string s', .slice A2 d.length cap2] := e2
   subst e2
   replace h2 : a2.tmps[7]? = some _ := h2
   refine RInv.enter (f := 28) (args := #[.agg #[.int .u8 k', .int .i64 n', .string s', .slice A2 d.length cap2]]) h hi rfl (wanted_none rfl) (fun _ => trivial) (by intro c; simp) rfl (by simp [h2, go_sem]) ?_
   refine (callsIn_wide.2 (reads_any _ _ _ (HB.out.at_ (Nat.le_refl _) h.cw) HSB.out)).mono ?_
   rintro e V2 ⟨b9, rfl, _, hs9, hb9⟩
   exact ⟨_, rfl, h.cw.trans (hb9.mono h.cw.size), fun j u hu => ESpecs.mono hb9 j u hu, ⟨_, _, rfl, hs9⟩⟩
  refine AllFrom.cons (fun listed a2 V h hi hd => ?_) ?_
  ·obtain ⟨u1, h1, e1⟩ := hd ⟨1, .data⟩ (by simp) rfl
   obtain ⟨b1, n1, e1, S1⟩ : ∃ bb nn, u1 = .map (some bb) ∧ SetW V bb nn (writesT (.mk k n s c)) := e1
   subst e1
   replace h1 : a2.tmps[6]? = some _ := h1
   obtain ⟨u3, h3, e3⟩ := hd ⟨3, .data⟩ (by simp) rfl
   obtain ⟨b3, n3, e3, S3⟩ : ∃ bb nn, u3 = .map (some bb) ∧ SetW V bb nn (readsT (.mk k' n' s' d)) := e3
   subst e3
   replace h3 : a2.tmps[8]? = some _ := h3
   refine RInv.enter (f := 35) (args := #[.map (some b1), .map (some b3)]) h hi rfl (wanted_none rfl) (fun _ => trivial) (by intro c; simp) rfl (by simp [h1, h3, go_sem]) ?_
   refine (callsIn_wide.2 (disjoint_any _ _ _ _ _ _ V S1 S3)).mono ?_
   rintro e V2 ⟨rfl, hb9⟩
   rw [HD1.out]
   exact ⟨_, rfl, h.cw.trans (hb9.mono h.cw.size), fun j u hu => ESpecs.mono hb9 j u hu, rfl⟩
  refine AllFrom.cons (fun listed a2 V h hi hd => ?_) ?_
  ·obtain ⟨u4, h4, e4⟩ := hd ⟨4, .data⟩ (by simp) rfl
   replace e4 : u4 = .bool true := e4
   subst e4
   replace h4 : a2.tmps[9]? = some _ := h4
   exact RInv.pure (v := .bool true) h hi rfl (wanted_none rfl) (fun _ => trivial) (by intro c; simp) (by simp [execOp, h4, go_sem]) rfl
  refine AllFrom.cons (fun listed a2 V h hi hd => ?_) ?_
  ·obtain ⟨u5, h5, e5⟩ := hd ⟨5, .guard⟩ (by simp) rfl
   replace e5 : u5 = .bool true := e5
   subst e5
   replace h5 : a2.tmps[10]? = some _ := h5
   have f3 : a2.tmps[3]? = some (.pointer (some ⟨w.heap.size + 1, 0, none⟩)) := h.fixed 3 (by intro j hj; simp only [indS]; split <;> omega)
   have kc0 := (h.cw.cell (p := ⟨w.heap.size + 1, 0, none⟩) (show w.heap.size + 1 < W0.heap.size by omega)).trans z0
   have kc1 := (h.cw.cell (p := ⟨w.heap.size + 1, 1, none⟩) (show w.heap.size + 1 < W0.heap.size by omega)).trans z1
   have kc2 := (h.cw.cell (p := ⟨w.heap.size + 1, 2, none⟩) (show w.heap.size + 1 < W0.heap.size by omega)).trans z2
   have kc3 := (h.cw.cell (p := ⟨w.heap.size + 1, 3, none⟩) (show w.heap.size + 1 < W0.heap.size by omega)).trans z3
   exact RInv.pure (v := .agg #[.int .u8 k', .int .i64 n', .string s', .slice A2 d.length cap2]) h hi rfl (wanted_at rfl rfl h5 rfl) (fun _ => trivial) (by intro c; simp) (by simp [execOp, f3, kc0, kc1, kc2, kc3, go_sem]) rfl
  refine AllFrom.cons (fun listed a2 V h hi hd => ?_) ?_
  ·obtain ⟨u6, h6, e6⟩ := hd ⟨6, .data⟩ (by simp) rfl
   replace e6 : u6 = .agg #[.int .u8 k', .int .i64 n', .string s', .slice A2 d.length cap2] := e6
   subst e6
   replace h6 : a2.tmps[11]? = some _ := h6
   obtain ⟨u5, h5, e5⟩ := hd ⟨5, .chain⟩ (by simp) rfl
   replace e5 : u5 = .bool true := e5
   subst e5
   replace h5 : a2.tmps[10]? = some _ := h5
   refine RInv.enter (f := 34) (args := #[.agg #[.int .u8 k', .int .i64 n', .string s', .slice A2 d.length cap2]]) h hi rfl (wanted_at rfl rfl h5 rfl) (fun _ => trivial) (by intro c; simp) rfl (by simp [h6, go_sem]) ?_
   refine (callsIn_wide.2 (writes_any _ _ _ (HB.out.at_ (Nat.le_refl _) h.cw) HSB.out)).mono ?_
   rintro e V2 ⟨b9, rfl, _, hs9, hb9⟩
   exact ⟨_, rfl, h.cw.trans (hb9.mono h.cw.size), fun j u hu => ESpecs.mono hb9 j u hu, ⟨_, _, rfl, hs9⟩⟩
  refine AllFrom.cons (fun listed a2 V h hi hd => ?_) ?_
  ·obtain ⟨u5, h5, e5⟩ := hd ⟨5, .guard⟩ (by simp) rfl
   replace e5 : u5 = .bool true := e5
   subst e5
   replace h5 : a2.tmps[10]? = some _ := h5
   have f2 : a2.tmps[2]? = some (.pointer (some ⟨w.heap.size, 0, none⟩)) := h.fixed 2 (by intro j hj; simp only [indS]; split <;> omega)
   have kc0 := (h.cw.cell (p := ⟨w.heap.size, 0, none⟩) (show w.heap.size < W0.heap.size by omega)).trans x0
   have kc1 := (h.cw.cell (p := ⟨w.heap.size, 1, none⟩) (show w.heap.size < W0.heap.size by omega)).trans x1
   have kc2 := (h.cw.cell (p := ⟨w.heap.size, 2, none⟩) (show w.heap.size < W0.heap.size by omega)).trans x2
   have kc3 := (h.cw.cell (p := ⟨w.heap.size, 3, none⟩) (show w.heap.size < W0.heap.size by omega)).trans x3
   exact RInv.pure (v := .agg #[.int .u8 k, .int .i64 n, .string s, .slice A c.length cap]) h hi rfl (wanted_at rfl rfl h5 rfl) (fun _ => trivial) (by intro c; simp) (by simp [execOp, f2, kc0, kc1, kc2, kc3, go_sem]) rfl
  refine AllFrom.cons (fun listed a2 V h hi hd => ?_) ?_
  ·obtain ⟨u8, h8, e8⟩ := hd ⟨8, .data⟩ (by simp) rfl
   replace e8 : u8 = .agg #[.int .u8 k, .int .i64 n, .string s, .slice A c.length cap] := e8
   subst e8
   replace h8 : a2.tmps[13]? = some _ := h8
   obtain ⟨u5, h5, e5⟩ := hd ⟨5, .guard⟩ (by simp) rfl
   replace e5 : u5 = .bool true := e5
   subst e5
   replace h5 : a2.tmps[10]? = some _ := h5
   refine RInv.enter (f := 28) (args := #[.agg #[.int .u8 k, .int .i64 n, .string s, .slice A c.length cap]]) h hi rfl (wanted_at rfl rfl h5 rfl) (fun _ => trivial) (by intro c; simp) rfl (by simp [h8, go_sem]) ?_
   refine (callsIn_wide.2 (reads_any _ _ _ (HA.out.at_ (Nat.le_refl _) h.cw) HSA.out)).mono ?_
   rintro e V2 ⟨b9, rfl, _, hs9, hb9⟩
   exact ⟨_, rfl, h.cw.trans (hb9.mono h.cw.size), fun j u hu => ESpecs.mono hb9 j u hu, ⟨_, _, rfl, hs9⟩⟩
  refine AllFrom.cons (fun listed a2 V h hi hd => ?_) ?_
  ·obtain ⟨u7, h7, e7⟩ := hd ⟨7, .data⟩ (by simp) rfl
   obtain ⟨b7, n7, e7, S7⟩ : ∃ bb nn, u7 = .map (some bb) ∧ SetW V bb nn (writesT (.mk k' n' s' d)) := e7
   subst e7
   replace h7 : a2.tmps[12]? = some _ := h7
   obtain ⟨u9, h9, e9⟩ := hd ⟨9, .data⟩ (by simp) rfl
   obtain ⟨b9, n9, e9, S9⟩ : ∃ bb nn, u9 = .map (some bb) ∧ SetW V bb nn (readsT (.mk k n s c)) := e9
   subst e9
   replace h9 : a2.tmps[14]? = some _ := h9
   obtain ⟨u5, h5, e5⟩ := hd ⟨5, .guard⟩ (by simp) rfl
   replace e5 : u5 = .bool true := e5
   subst e5
   replace h5 : a2.tmps[10]? = some _ := h5
   refine RInv.enter (f := 35) (args := #[.map (some b7), .map (some b9)]) h hi rfl (wanted_at rfl rfl h5 rfl) (fun _ => trivial) (by intro c; simp) rfl (by simp [h7, h9, go_sem]) ?_
   refine (callsIn_wide.2 (disjoint_any _ _ _ _ _ _ V S7 S9)).mono ?_
   rintro e V2 ⟨rfl, hb9⟩
   rw [HD2.out]
   exact ⟨_, rfl, h.cw.trans (hb9.mono h.cw.size), fun j u hu => ESpecs.mono hb9 j u hu, rfl⟩
  refine AllFrom.cons (fun listed a2 V h hi hd => ?_) ?_
  ·obtain ⟨u5, h5, e5⟩ := hd ⟨5, .data⟩ (by simp) rfl
   replace e5 : u5 = .bool true := e5
   subst e5
   replace h5 : a2.tmps[10]? = some _ := h5
   obtain ⟨u10, h10, e10⟩ := hd ⟨10, .data⟩ (by simp) rfl
   replace e10 : u10 = .bool true := e10
   subst e10
   replace h10 : a2.tmps[15]? = some _ := h10
   exact RInv.pure (v := .bool true) h hi rfl (wanted_none rfl) (fun _ => trivial) (by intro c; simp) (by simp [execOp, h5, h10, go_sem]) rfl
  refine AllFrom.cons (fun listed a2 V h hi hd => ?_) ?_
  ·obtain ⟨u11, h11, e11⟩ := hd ⟨11, .data⟩ (by simp) rfl
   replace e11 : u11 = .bool true := e11
   subst e11
   replace h11 : a2.tmps[16]? = some _ := h11
   exact RInv.pure (v := .bool true) h hi rfl (wanted_none rfl) (fun _ => trivial) (by intro c; simp) (by simp [execOp, h11, go_sem]) rfl
  refine AllFrom.cons (fun listed a2 V h hi hd => ?_) ?_
  ·obtain ⟨u12, h12, e12⟩ := hd ⟨12, .guard⟩ (by simp) rfl
   replace e12 : u12 = .bool true := e12
   subst e12
   replace h12 : a2.tmps[17]? = some _ := h12
   have f2 : a2.tmps[2]? = some (.pointer (some ⟨w.heap.size, 0, none⟩)) := h.fixed 2 (by intro j hj; simp only [indS]; split <;> omega)
   have kc0 := (h.cw.cell (p := ⟨w.heap.size, 0, none⟩) (show w.heap.size < W0.heap.size by omega)).trans x0
   have kc1 := (h.cw.cell (p := ⟨w.heap.size, 1, none⟩) (show w.heap.size < W0.heap.size by omega)).trans x1
   have kc2 := (h.cw.cell (p := ⟨w.heap.size, 2, none⟩) (show w.heap.size < W0.heap.size by omega)).trans x2
   have kc3 := (h.cw.cell (p := ⟨w.heap.size, 3, none⟩) (show w.heap.size < W0.heap.size by omega)).trans x3
   exact RInv.pure (v := .agg #[.int .u8 k, .int .i64 n, .string s, .slice A c.length cap]) h hi rfl (wanted_at rfl rfl h12 rfl) (fun _ => trivial) (by intro c; simp) (by simp [execOp, f2, kc0, kc1, kc2, kc3, go_sem]) rfl
  refine AllFrom.cons (fun listed a2 V h hi hd => ?_) ?_
  ·obtain ⟨u13, h13, e13⟩ := hd ⟨13, .data⟩ (by simp) rfl
   replace e13 : u13 = .agg #[.int .u8 k, .int .i64 n, .string s, .slice A c.length cap] := e13
   subst e13
   replace h13 : a2.tmps[18]? = some _ := h13
   obtain ⟨u12, h12, e12⟩ := hd ⟨12, .chain⟩ (by simp) rfl
   replace e12 : u12 = .bool true := e12
   subst e12
   replace h12 : a2.tmps[17]? = some _ := h12
   refine RInv.enter (f := 36) (args := #[.agg #[.int .u8 k, .int .i64 n, .string s, .slice A c.length cap]]) h hi rfl (wanted_at rfl rfl h12 rfl) (fun _ => trivial) (by intro c; simp) rfl (by simp [h13, go_sem]) ?_
   refine (callsIn_wide.2 (HT.out _ HSA.out _ _ (HA.out.at_ (Nat.le_refl _) h.cw))).mono ?_
   rintro e V2 ⟨rfl, hb9⟩
   rw [HTA.out]
   exact ⟨_, rfl, h.cw.trans (hb9.mono h.cw.size), fun j u hu => ESpecs.mono hb9 j u hu, rfl⟩
  refine AllFrom.cons (fun listed a2 V h hi hd => ?_) ?_
  ·obtain ⟨u14, h14, e14⟩ := hd ⟨14, .data⟩ (by simp) rfl
   replace e14 : u14 = .bool true := e14
   subst e14
   replace h14 : a2.tmps[19]? = some _ := h14
   obtain ⟨u12, h12, e12⟩ := hd ⟨12, .guard⟩ (by simp) rfl
   replace e12 : u12 = .bool true := e12
   subst e12
   replace h12 : a2.tmps[17]? = some _ := h12
   exact RInv.pure (v := .bool true) h hi rfl (wanted_at rfl rfl h12 rfl) (fun _ => trivial) (by intro c; simp) (by simp [execOp, h14, go_sem]) rfl
  refine AllFrom.cons (fun listed a2 V h hi hd => ?_) ?_
  ·obtain ⟨u15, h15, e15⟩ := hd ⟨15, .guard⟩ (by simp) rfl
   replace e15 : u15 = .bool true := e15
   subst e15
   replace h15 : a2.tmps[20]? = some _ := h15
   have f3 : a2.tmps[3]? = some (.pointer (some ⟨w.heap.size + 1, 0, none⟩)) := h.fixed 3 (by intro j hj; simp only [indS]; split <;> omega)
   have kc0 := (h.cw.cell (p := ⟨w.heap.size + 1, 0, none⟩) (show w.heap.size + 1 < W0.heap.size by omega)).trans z0
   have kc1 := (h.cw.cell (p := ⟨w.heap.size + 1, 1, none⟩) (show w.heap.size + 1 < W0.heap.size by omega)).trans z1
   have kc2 := (h.cw.cell (p := ⟨w.heap.size + 1, 2, none⟩) (show w.heap.size + 1 < W0.heap.size by omega)).trans z2
   have kc3 := (h.cw.cell (p := ⟨w.heap.size + 1, 3, none⟩) (show w.heap.size + 1 < W0.heap.size by omega)).trans z3
   exact RInv.pure (v := .agg #[.int .u8 k', .int .i64 n', .string s', .slice A2 d.length cap2]) h hi rfl (wanted_at rfl rfl h15 rfl) (fun _ => trivial) (by intro c; simp) (by simp [execOp, f3, kc0, kc1, kc2, kc3, go_sem]) rfl
  refine AllFrom.cons (fun listed a2 V h hi hd => ?_) ?_
  ·obtain ⟨u16, h16, e16⟩ := hd ⟨16, .data⟩ (by simp) rfl
   replace e16 : u16 = .agg #[.int .u8 k', .int .i64 n', .string s', .slice A2 d.length cap2] := e16
   subst e16
   replace h16 : a2.tmps[21]? = some _ := h16
   obtain ⟨u15, h15, e15⟩ := hd ⟨15, .chain⟩ (by simp) rfl
   replace e15 : u15 = .bool true := e15
   subst e15
   replace h15 : a2.tmps[20]? = some _ := h15
   refine RInv.enter (f := 36) (args := #[.agg #[.int .u8 k', .int .i64 n', .string s', .slice A2 d.length cap2]]) h hi rfl (wanted_at rfl rfl h15 rfl) (fun _ => trivial) (by intro c; simp) rfl (by simp [h16, go_sem]) ?_
   refine (callsIn_wide.2 (HT.out _ HSB.out _ _ (HB.out.at_ (Nat.le_refl _) h.cw))).mono ?_
   rintro e V2 ⟨rfl, hb9⟩
   rw [HTB.out]
   exact ⟨_, rfl, h.cw.trans (hb9.mono h.cw.size), fun j u hu => ESpecs.mono hb9 j u hu, rfl⟩
  refine AllFrom.cons (fun listed a2 V h hi hd => ?_) ?_
  ·obtain ⟨u15, h15, e15⟩ := hd ⟨15, .data⟩ (by simp) rfl
   replace e15 : u15 = .bool true := e15
   subst e15
   replace h15 : a2.tmps[20]? = some _ := h15
   obtain ⟨u17, h17, e17⟩ := hd ⟨17, .data⟩ (by simp) rfl
   replace e17 : u17 = .bool false := e17
   subst e17
   replace h17 : a2.tmps[22]? = some _ := h17
   obtain ⟨u12, h12, e12⟩ := hd ⟨12, .guard⟩ (by simp) rfl
   replace e12 : u12 = .bool true := e12
   subst e12
   replace h12 : a2.tmps[17]? = some _ := h12
   exact RInv.pure (v := .bool false) h hi rfl (wanted_at rfl rfl h12 rfl) (fun _ => trivial) (by intro c; simp) (by simp [execOp, h15, h17, go_sem]) rfl
  refine AllFrom.cons (fun listed a2 V h hi hd => ?_) ?_
  ·obtain ⟨u18, h18, e18⟩ := hd ⟨18, .data⟩ (by simp) rfl
   replace e18 : u18 = .bool false := e18
   subst e18
   replace h18 : a2.tmps[23]? = some _ := h18
   obtain ⟨u12, h12, e12⟩ := hd ⟨12, .guard⟩ (by simp) rfl
   replace e12 : u12 = .bool true := e12
   subst e12
   replace h12 : a2.tmps[17]? = some _ := h12
   exact RInv.pure (v := .bool true) h hi rfl (wanted_at rfl rfl h12 rfl) (fun _ => trivial) (by intro c; simp) (by simp [execOp, h18, go_sem]) rfl
  refine AllFrom.cons (fun listed a2 V h hi hd => ?_) ?_
  ·obtain ⟨u12, h12, e12⟩ := hd ⟨12, .data⟩ (by simp) rfl
   replace e12 : u12 = .bool true := e12
   subst e12
   replace h12 : a2.tmps[17]? = some _ := h12
   obtain ⟨u19, h19, e19⟩ := hd ⟨19, .data⟩ (by simp) rfl
   replace e19 : u19 = .bool true := e19
   subst e19
   replace h19 : a2.tmps[24]? = some _ := h19
   exact RInv.pure (v := .bool true) h hi rfl (wanted_none rfl) (fun _ => trivial) (by intro c; simp) (by simp [execOp, h12, h19, go_sem]) rfl
  refine AllFrom.cons (fun listed a2 V h hi hd => ?_) ?_
  ·obtain ⟨u20, h20, e20⟩ := hd ⟨20, .data⟩ (by simp) rfl
   replace e20 : u20 = .bool true := e20
   subst e20
   replace h20 : a2.tmps[25]? = some _ := h20
   exact RInv.pure (v := .bool true) h hi rfl (wanted_none rfl) (fun _ => trivial) (by intro c; simp) (by simp [execOp, h20, go_sem]) rfl
  exact trivial
 case fin =>
  rintro a2 V hV hs hdf hfx hph
  obtain ⟨u21, h21, e21⟩ := hph 21 (by omega)
  replace e21 : u21 = .bool true := e21
  subst e21
  replace h21 : a2.tmps[4]? = some _ := h21
  obtain ⟨tm, df⟩ := a2
  have hdf1 : df = [] := hdf
  subst hdf1
  have htm := tm_sets [5, 6, 7, 8, 9, 10, 11, 12, 13, 14, 15, 16, 17, 18, 19, 20, 21, 22, 23, 24, 25, 4] hs (fun t ht => hfx t (fun j hj e => ht (e ▸ (show ∀ j, j < 22 → (indS) j ∈ [5, 6, 7, 8, 9, 10, 11, 12, 13, 14, 15, 16, 17, 18, 19, 20, 21, 22, 23, 24, 25, 4] by decide) j hj)))
  simp only [List.foldl_cons, List.foldl_nil, List.setIfInBounds_toArray, List.set_cons_succ, List.set_cons_zero] at htm
  rw [show tm.getD 4 undef = .bool true from by simp only [Array.getD_eq_getD_getElem?, h21, Option.getD_some]] at htm
  clear hs hdf hfx hph h21
  generalize tm.getD 5 undef = y5 at htm
  generalize tm.getD 6 undef = y6 at htm
  generalize tm.getD 7 undef = y7 at htm
  generalize tm.getD 8 undef = y8 at htm
  generalize tm.getD 9 undef = y9 at htm
  generalize tm.getD 10 undef = y10 at htm
  generalize tm.getD 11 undef = y11 at htm
  generalize tm.getD 12 undef = y12 at htm
  generalize tm.getD 13 undef = y13 at htm
  generalize tm.getD 14 undef = y14 at htm
  generalize tm.getD 15 undef = y15 at htm
  generalize tm.getD 16 undef = y16 at htm
  generalize tm.getD 17 undef = y17 at htm
  generalize tm.getD 18 undef = y18 at htm
  generalize tm.getD 19 undef = y19 at htm
  generalize tm.getD 20 undef = y20 at htm
  generalize tm.getD 21 undef = y21 at htm
  generalize tm.getD 22 undef = y22 at htm
  generalize tm.getD 23 undef = y23 at htm
  generalize tm.getD 24 undef = y24 at htm
  generalize tm.getD 25 undef = y25 at htm
  subst htm
  have HV := Lib.hid hV
  clear hV
  go_wp2_with fail
  go_ret
  exact ⟨rfl, HBW.out.trans (HV.out.mono (by omega))⟩

set_option maxRecDepth 100000 in
set_option maxHeartbeats 4000000 in
theorem ind4 {tp : Tr → Bool} (hT : ∀ t : Tr, t.size ≤ 1000000 → Tests 36 tp t) (k n : Int) (s : ByteArray) (c : List Tr) (A : Option Addr) (cap : Nat) (k' n' : Int) (s' : ByteArray) (d : List Tr) (A2 : Option Addr) (cap2 : Nat) (w : World)
  (hr : Rep w w.heap.size (.mk k n s c) (.agg #[.int .u8 k, .int .i64 n, .string s, .slice A c.length cap])) (hr2 : Rep w w.heap.size (.mk k' n' s' d) (.agg #[.int .u8 k', .int .i64 n', .string s', .slice A2 d.length cap2])) (hsz : (Tr.mk k n s c).size ≤ 1000000) (hsz2 : (Tr.mk k' n' s' d).size ≤ 1000000) (hd1 : disj (writesT (.mk k n s c)) (readsT (.mk k' n' s' d)) = true) (hd2 : disj (writesT (.mk k' n' s' d)) (readsT (.mk k n s c)) = true) (hta : tp (.mk k n s c) = true) (htb : tp (.mk k' n' s' d) = true) :
  Calls Tryz.prog 15 #[.agg #[.int .u8 k, .int .i64 n, .string s, .slice A c.length cap], .agg #[.int .u8 k', .int .i64 n', .string s', .slice A2 d.length cap2]] w fun e w' => e = .returned (.bool false) ∧ Below w.heap.size w w' := by
 have hmo : Tryz.prog.follows .mixedOrders = true := by kernel_rfl
 have hbw : Below w.heap.size w ((w.alloc (.cells #[.int .u8 k, .int .i64 n, .string s, .slice A c.length cap] 26)).alloc (.cells #[.int .u8 k', .int .i64 n', .string s', .slice A2 d.length cap2] 26)) := ((Below.refl _ w).alloc (Nat.le_refl _) _).alloc (by simp) _
 have HBW := Lib.hid hbw
 have HA := Lib.hid (hr.at_ (Nat.le_refl _) hbw)
 have HB := Lib.hid (hr2.at_ (Nat.le_refl _) hbw)
 have HSA := Lib.hid hsz
 have HSB := Lib.hid hsz2
 have HT := Lib.hid hT
 have hx : ((w.alloc (.cells #[.int .u8 k, .int .i64 n, .string s, .slice A c.length cap] 26)).alloc (.cells #[.int .u8 k', .int .i64 n', .string s', .slice A2 d.length cap2] 26)).heap[w.heap.size]? = some (.cells #[.int .u8 k, .int .i64 n, .string s, .slice A c.length cap] 26 (0, 0)) := (Below.heap_alloc _ _ _ (by simp)).trans (heap_new w _)
 have hy : ((w.alloc (.cells #[.int .u8 k, .int .i64 n, .string s, .slice A c.length cap] 26)).alloc (.cells #[.int .u8 k', .int .i64 n', .string s', .slice A2 d.length cap2] 26)).heap[w.heap.size + 1]? = some (.cells #[.int .u8 k', .int .i64 n', .string s', .slice A2 d.length cap2] 26 (0, 0)) := by have := heap_new (w.alloc (.cells #[.int .u8 k, .int .i64 n, .string s, .slice A c.length cap] 26)) (.cells #[.int .u8 k', .int .i64 n', .string s', .slice A2 d.length cap2] 26); simpa using this
 have hws : w.heap.size + 2 = ((w.alloc (.cells #[.int .u8 k, .int .i64 n, .string s, .slice A c.length cap] 26)).alloc (.cells #[.int .u8 k', .int .i64 n', .string s', .slice A2 d.length cap2] 26)).heap.size := by simp
 have HD1 := Lib.hid hd1
 have HD2 := Lib.hid hd2
 have HTA := Lib.hid hta
 have HTB := Lib.hid htb
 clear hd1 hd2 hta htb
 clear hbw hr hr2 hsz hsz2 hT
 go_enter Tryz.func15, Tryz.ntmps15
 go_wp2_with fail
 generalize ((w.alloc (.cells #[.int .u8 k, .int .i64 n, .string s, .slice A c.length cap] 26)).alloc (.cells #[.int .u8 k', .int .i64 n', .string s', .slice A2 d.length cap2] 26)) = W0 at *
 have x0 : W0.cell? ⟨w.heap.size, 0, none⟩ = some (.int .u8 k) := cell_of_row _ _ 0 _ _ _ hx
 have x1 : W0.cell? ⟨w.heap.size, 1, none⟩ = some (.int .i64 n) := cell_of_row _ _ 1 _ _ _ hx
 have x2 : W0.cell? ⟨w.heap.size, 2, none⟩ = some (.string s) := cell_of_row _ _ 2 _ _ _ hx
 have x3 : W0.cell? ⟨w.heap.size, 3, none⟩ = some (.slice A c.length cap) := cell_of_row _ _ 3 _ _ _ hx
 have z0 : W0.cell? ⟨w.heap.size + 1, 0, none⟩ = some (.int .u8 k') := cell_of_row _ _ 0 _ _ _ hy
 have z1 : W0.cell? ⟨w.heap.size + 1, 1, none⟩ = some (.int .i64 n') := cell_of_row _ _ 1 _ _ _ hy
 have z2 : W0.cell? ⟨w.heap.size + 1, 2, none⟩ = some (.string s') := cell_of_row _ _ 2 _ _ _ hy
 have z3 : W0.cell? ⟨w.heap.size + 1, 3, none⟩ = some (.slice A2 d.length cap2) := cell_of_row _ _ 3 _ _ _ hy
 clear hx hy
 refine wpIn_wide (n := 0) |>.1 (region_all (N := 22) (s := indS) hmo rfl (by kernel_rfl) (fun V => Below W0.heap.size W0 V) (ESpecs [.is (.agg #[.int .u8 k, .int .i64 n, .string s, .slice A c.length cap]), .set (writesT (.mk k n s c)), .is (.agg #[.int .u8 k', .int .i64 n', .string s', .slice A2 d.length cap2]), .set (readsT (.mk k' n' s' d)), .is (.bool true), .is (.bool true), .is (.agg #[.int .u8 k', .int .i64 n', .string s', .slice A2 d.length cap2]), .set (writesT (.mk k' n' s' d)), .is (.agg #[.int .u8 k, .int .i64 n, .string s, .slice A c.length cap]), .set (readsT (.mk k n s c)), .is (.bool true), .is (.bool true), .is (.bool true), .is (.agg #[.int .u8 k, .int .i64 n, .string s, .slice A c.length cap]), .is (.bool true), .is (.bool true), .is (.agg #[.int .u8 k', .int .i64 n', .string s', .slice A2 d.length cap2]), .is (.bool true), .is (.bool true), .is (.bool false), .is (.bool false), .is (.bool false)]) (by intro j hj; simp only [indS]; simp; split <;> omega) (by intro i j _ _ e; simp only [indS] at e; split at e <;> split at e <;> omega) (Below.refl _ W0).drew ?steps ?fin)
 case steps =>
  show AllFrom _ 0 (_ :: _)
  refine AllFrom.cons (fun listed a2 V h hi hd => ?_) ?_
  ·have f2 : a2.tmps[2]? = some (.pointer (some ⟨w.heap.size, 0, none⟩)) := h.fixed 2 (by intro j hj; simp only [indS]; split <;> omega)
   have kc0 := (h.cw.cell (p := ⟨w.heap.size, 0, none⟩) (show w.heap.size < W0.heap.size by omega)).trans x0
   have kc1 := (h.cw.cell (p := ⟨w.heap.size, 1, none⟩) (show w.heap.size < W0.heap.size by omega)).trans x1
   have kc2 := (h.cw.cell (p := ⟨w.heap.size, 2, none⟩) (show w.heap.size < W0.heap.size by omega)).trans x2
   have kc3 := (h.cw.cell (p := ⟨w.heap.size, 3, none⟩) (show w.heap.size < W0.heap.size by omega)).trans x3
   exact RInv.pure (v := .agg #[.int .u8 k, .int .i64 n, .string s, .slice A c.length cap]) h hi rfl (wanted_none rfl) (fun _ => trivial) (by intro c; simp) (by simp [execOp, f2, kc0, kc1, kc2, kc3, go_sem]) rfl
  refine AllFrom.cons (fun listed a2 V h hi hd => ?_) ?_
  ·obtain ⟨u0, h0, e0⟩ := hd ⟨0, .data⟩ (by simp) rfl
   replace e0 : u0 = .agg #[.int .u8 k, .int .i64 n, .string s, .slice A c.length cap] := e0
   subst e0
   replace h0 : a2.tmps[5]? = some _ := h0
   refine RInv.enter (f := 34) (args := #[.agg #[.int .u8 k, .int .i64 n, .string s, .slice A c.length cap]]) h hi rfl (wanted_none rfl) (fun _ => trivial) (by intro c; simp) rfl (by simp [h0, go_sem]) ?_
   refine (callsIn_wide.2 (writes_any _ _ _ (HA.out.at_ (Nat.le_refl _) h.cw) HSA.out)).mono ?_
   rintro e V2 ⟨b9, rfl, _, hs9, hb9⟩
   exact ⟨_, rfl, h.cw.trans (hb9.mono h.cw.size), fun j u hu => ESpecs.mono hb9 j u hu, ⟨_, _, rfl, hs9⟩⟩
  refine AllFrom.cons (fun listed a2 V h hi hd => ?_) ?_
  ·have f3 : a2.tmps[3]? = some (.pointer (some ⟨w.heap.size + 1, 0, none⟩)) := h.fixed 3 (by intro j hj; simp only [indS]; split <;> omega)
   have kc0 := (h.cw.cell (p := ⟨w.heap.size + 1, 0, none⟩) (show w.heap.size + 1 < W0.heap.size by omega)).trans z0
   have kc1 := (h.cw.cell (p := ⟨w.heap.size + 1, 1, none⟩) (show w.heap.size + 1 < W0.heap.size by omega)).trans z1
   have kc2 := (h.cw.cell (p := ⟨w.heap.size + 1, 2, none⟩) (show w.heap.size + 1 < W0.heap.size by omega)).trans z2
   have kc3 := (h.cw.cell (p := ⟨w.heap.size + 1, 3, none⟩) (show w.heap.size + 1 < W0.heap.size by omega)).trans z3
   exact RInv.pure (v := .agg #[.int .u8 k', .int .i64 n', .string s', .slice A2 d.length cap2]) h hi rfl (wanted_none rfl) (fun _ => trivial) (by intro c; simp) (by simp [execOp, f3, kc0, kc1, kc2, kc3, go_sem]) rfl
  refine AllFrom.cons (fun listed a2 V h hi hd => ?_) ?_
  ·obtain ⟨u2, h2, e2⟩ := hd ⟨2, .data⟩ (by simp) rfl
   replace e2 : u2 = .agg #[.int .u8 k', .int .i64 n', .string s', .slice A2 d.length cap2] := e2
   subst e2
   replace h2 : a2.tmps[7]? = some _ := h2
   refine RInv.enter (f := 28) (args := #[.agg #[.int .u8 k', .int .i64 n', .string s', .slice A2 d.length cap2]]) h hi rfl (wanted_none rfl) (fun _ => trivial) (by intro c; simp) rfl (by simp [h2, go_sem]) ?_
   refine (callsIn_wide.2 (reads_any _ _ _ (HB.out.at_ (Nat.le_refl _) h.cw) HSB.out)).mono ?_
   rintro e V2 ⟨b9, rfl, _, hs9, hb9⟩
   exact ⟨_, rfl, h.cw.trans (hb9.mono h.cw.size), fun j u hu => ESpecs.mono hb9 j u hu, ⟨_, _, rfl, hs9⟩⟩
  refine AllFrom.cons (fun listed a2 V h hi hd => ?_) ?_
  ·obtain ⟨u1, h1, e1⟩ := hd ⟨1, .data⟩ (by simp) rfl
   obtain ⟨b1, n1, e1, S1⟩ : ∃ bb nn, u1 = .map (some bb) ∧ SetW V bb nn (writesT (.mk k n s c)) := e1
   subst e1
   replace h1 : a2.tmps[6]? = some _ := h1
   obtain ⟨u3, h3, e3⟩ := hd ⟨3, .data⟩ (by simp) rfl
   obtain ⟨b3, n3, e3, S3⟩ : ∃ bb nn, u3 = .map (some bb) ∧ SetW V bb nn (readsT (.mk k' n' s' d)) := e3
   subst e3
   replace h3 : a2.tmps[8]? = some _ := h3
   refine RInv.enter (f := 35) (args := #[.map (some b1), .map (some b3)]) h hi rfl (wanted_none rfl) (fun _ => trivial) (by intro c; simp) rfl (by simp [h1, h3, go_sem]) ?_
   refine (callsIn_wide.2 (disjoint_any _ _ _ _ _ _ V S1 S3)).mono ?_
   rintro e V2 ⟨rfl, hb9⟩
   rw [HD1.out]
   exact ⟨_, rfl, h.cw.trans (hb9.mono h.cw.size), fun j u hu => ESpecs.mono hb9 j u hu, rfl⟩
  refine AllFrom.cons (fun listed a2 V h hi hd => ?_) ?_
  ·obtain ⟨u4, h4, e4⟩ := hd ⟨4, .data⟩ (by simp) rfl
   replace e4 : u4 = .bool true := e4
   subst e4
   replace h4 : a2.tmps[9]? = some _ := h4
   exact RInv.pure (v := .bool true) h hi rfl (wanted_none rfl) (fun _ => trivial) (by intro c; simp) (by simp [execOp, h4, go_sem]) rfl
  refine AllFrom.cons (fun listed a2 V h hi hd => ?_) ?_
  ·obtain ⟨u5, h5, e5⟩ := hd ⟨5, .guard⟩ (by simp) rfl
   replace e5 : u5 = .bool true := e5
   subst e5
   replace h5 : a2.tmps[10]? = some _ := h5
   have f3 : a2.tmps[3]? = some (.pointer (some ⟨w.heap.size + 1, 0, none⟩)) := h.fixed 3 (by intro j hj; simp only [indS]; split <;> omega)
   have kc0 := (h.cw.cell (p := ⟨w.heap.size + 1, 0, none⟩) (show w.heap.size + 1 < W0.heap.size by omega)).trans z0
   have kc1 := (h.cw.cell (p := ⟨w.heap.size + 1, 1, none⟩) (show w.heap.size + 1 < W0.heap.size by omega)).trans z1
   have kc2 := (h.cw.cell (p := ⟨w.heap.size + 1, 2, none⟩) (show w.heap.size + 1 < W0.heap.size by omega)).trans z2
   have kc3 := (h.cw.cell (p := ⟨w.heap.size + 1, 3, none⟩) (show w.heap.size + 1 < W0.heap.size by omega)).trans z3
   exact RInv.pure (v := .agg #[.int .u8 k', .int .i64 n', .string s', .slice A2 d.length cap2]) h hi rfl (wanted_at rfl rfl h5 rfl) (fun _ => trivial) (by intro c; simp) (by simp [execOp, f3, kc0, kc1, kc2, kc3, go_sem]) rfl
  refine AllFrom.cons (fun listed a2 V h hi hd => ?_) ?_
  ·obtain ⟨u6, h6, e6⟩ := hd ⟨6, .data⟩ (by simp) rfl
   replace e6 : u6 = .agg #[.int .u8 k', .int .i64 n', .string s', .slice A2 d.length cap2] := e6
   subst e6
   replace h6 : a2.tmps[11]? = some _ := h6
   obtain ⟨u5, h5, e5⟩ := hd ⟨5, .chain⟩ (by simp) rfl
   replace e5 : u5 = .bool true := e5
   subst e5
   replace h5 : a2.tmps[10]? = some _ := h5
   refine RInv.enter (f := 34) (args := #[.agg #[.int .u8 k', .int .i64 n', .string s', .slice A2 d.length cap2]]) h hi rfl (wanted_at rfl rfl h5 rfl) (fun _ => trivial) (by intro c; simp) rfl (by simp [h6, go_sem]) ?_
   refine (callsIn_wide.2 (writes_any _ _ _ (HB.out.at_ (Nat.le_refl _) h.cw) HSB.out)).mono ?_
   rintro e V2 ⟨b9, rfl, _, hs9, hb9⟩
   exact ⟨_, rfl, h.cw.trans (hb9.mono h.cw.size), fun j u hu => ESpecs.mono hb9 j u hu, ⟨_, _, rfl, hs9⟩⟩
  refine AllFrom.cons (fun listed a2 V h hi hd => ?_) ?_
  ·obtain ⟨u5, h5, e5⟩ := hd ⟨5, .guard⟩ (by simp) rfl
   replace e5 : u5 = .bool true := e5
   subst e5
   replace h5 : a2.tmps[10]? = some _ := h5
   have f2 : a2.tmps[2]? = some (.pointer (some ⟨w.heap.size, 0, none⟩)) := h.fixed 2 (by intro j hj; simp only [indS]; split <;> omega)
   have kc0 := (h.cw.cell (p := ⟨w.heap.size, 0, none⟩) (show w.heap.size < W0.heap.size by omega)).trans x0
   have kc1 := (h.cw.cell (p := ⟨w.heap.size, 1, none⟩) (show w.heap.size < W0.heap.size by omega)).trans x1
   have kc2 := (h.cw.cell (p := ⟨w.heap.size, 2, none⟩) (show w.heap.size < W0.heap.size by omega)).trans x2
   have kc3 := (h.cw.cell (p := ⟨w.heap.size, 3, none⟩) (show w.heap.size < W0.heap.size by omega)).trans x3
   exact RInv.pure (v := .agg #[.int .u8 k, .int .i64 n, .string s, .slice A c.length cap]) h hi rfl (wanted_at rfl rfl h5 rfl) (fun _ => trivial) (by intro c; simp) (by simp [execOp, f2, kc0, kc1, kc2, kc3, go_sem]) rfl
  refine AllFrom.cons (fun listed a2 V h hi hd => ?_) ?_
  ·obtain ⟨u8, h8, e8⟩ := hd ⟨8, .data⟩ (by simp) rfl
   replace e8 : u8 = .agg #[.int .u8 k, .int .i64 n, .string s, .slice A c.length cap] := e8
   subst e8
   replace h8 : a2.tmps[13]? = some _ := h8
   obtain ⟨u5, h5, e5⟩ := hd ⟨5, .guard⟩ (by simp) rfl
   replace e5 : u5 = .bool true := e5
   subst e5
   replace h5 : a2.tmps[10]? = some _ := h5
   refine RInv.enter (f := 28) (args := #[.agg #[.int .u8 k, .int .i64 n, .string s, .slice A c.length cap]]) h hi rfl (wanted_at rfl rfl h5 rfl) (fun _ => trivial) (by intro c; simp) rfl (by simp [h8, go_sem]) ?_
   refine (callsIn_wide.2 (reads_any _ _ _ (HA.out.at_ (Nat.le_refl _) h.cw) HSA.out)).mono ?_
   rintro e V2 ⟨b9, rfl, _, hs9, hb9⟩
   exact ⟨_, rfl, h.cw.trans (hb9.mono h.cw.size), fun j u hu => ESpecs.mono hb9 j u hu, ⟨_, _, rfl, hs9⟩⟩
  refine AllFrom.cons (fun listed a2 V h hi hd => ?_) ?_
  ·obtain ⟨u7, h7, e7⟩ := hd ⟨7, .data⟩ (by simp) rfl
   obtain ⟨b7, n7, e7, S7⟩ : ∃ bb nn, u7 = .map (some bb) ∧ SetW V bb nn (writesT (.mk k' n' s' d)) := e7
   subst e7
   replace h7 : a2.tmps[12]? = some _ := h7
   obtain ⟨u9, h9, e9⟩ := hd ⟨9, .data⟩ (by simp) rfl
   obtain ⟨b9, n9, e9, S9⟩ : ∃ bb nn, u9 = .map (some bb) ∧ SetW V bb nn (readsT (.mk k n s c)) := e9
   subst e9
   replace h9 : a2.tmps[14]? = some _ := h9
   obtain ⟨u5, h5, e5⟩ := hd ⟨5, .guard⟩ (by simp) rfl
   replace e5 : u5 = .bool true := e5
   subst e5
   replace h5 : a2.tmps[10]? = some _ := h5
   refine RInv.enter (f := 35) (args := #[.map (some b7), .map (some b9)]) h hi rfl (wanted_at rfl rfl h5 rfl) (fun _ => trivial) (by intro c; simp) rfl (by simp [h7, h9, go_sem]) ?_
   refine (callsIn_wide.2 (disjoint_any _ _ _ _ _ _ V S7 S9)).mono ?_
   rintro e V2 ⟨rfl, hb9⟩
   rw [HD2.out]
   exact ⟨_, rfl, h.cw.trans (hb9.mono h.cw.size), fun j u hu => ESpecs.mono hb9 j u hu, rfl⟩
  refine AllFrom.cons (fun listed a2 V h hi hd => ?_) ?_
  ·obtain ⟨u5, h5, e5⟩ := hd ⟨5, .data⟩ (by simp) rfl
   replace e5 : u5 = .bool true := e5
   subst e5
   replace h5 : a2.tmps[10]? = some _ := h5
   obtain ⟨u10, h10, e10⟩ := hd ⟨10, .data⟩ (by simp) rfl
   replace e10 : u10 = .bool true := e10
   subst e10
   replace h10 : a2.tmps[15]? = some _ := h10
   exact RInv.pure (v := .bool true) h hi rfl (wanted_none rfl) (fun _ => trivial) (by intro c; simp) (by simp [execOp, h5, h10, go_sem]) rfl
  refine AllFrom.cons (fun listed a2 V h hi hd => ?_) ?_
  ·obtain ⟨u11, h11, e11⟩ := hd ⟨11, .data⟩ (by simp) rfl
   replace e11 : u11 = .bool true := e11
   subst e11
   replace h11 : a2.tmps[16]? = some _ := h11
   exact RInv.pure (v := .bool true) h hi rfl (wanted_none rfl) (fun _ => trivial) (by intro c; simp) (by simp [execOp, h11, go_sem]) rfl
  refine AllFrom.cons (fun listed a2 V h hi hd => ?_) ?_
  ·obtain ⟨u12, h12, e12⟩ := hd ⟨12, .guard⟩ (by simp) rfl
   replace e12 : u12 = .bool true := e12
   subst e12
   replace h12 : a2.tmps[17]? = some _ := h12
   have f2 : a2.tmps[2]? = some (.pointer (some ⟨w.heap.size, 0, none⟩)) := h.fixed 2 (by intro j hj; simp only [indS]; split <;> omega)
   have kc0 := (h.cw.cell (p := ⟨w.heap.size, 0, none⟩) (show w.heap.size < W0.heap.size by omega)).trans x0
   have kc1 := (h.cw.cell (p := ⟨w.heap.size, 1, none⟩) (show w.heap.size < W0.heap.size by omega)).trans x1
   have kc2 := (h.cw.cell (p := ⟨w.heap.size, 2, none⟩) (show w.heap.size < W0.heap.size by omega)).trans x2
   have kc3 := (h.cw.cell (p := ⟨w.heap.size, 3, none⟩) (show w.heap.size < W0.heap.size by omega)).trans x3
   exact RInv.pure (v := .agg #[.int .u8 k, .int .i64 n, .string s, .slice A c.length cap]) h hi rfl (wanted_at rfl rfl h12 rfl) (fun _ => trivial) (by intro c; simp) (by simp [execOp, f2, kc0, kc1, kc2, kc3, go_sem]) rfl
  refine AllFrom.cons (fun listed a2 V h hi hd => ?_) ?_
  ·obtain ⟨u13, h13, e13⟩ := hd ⟨13, .data⟩ (by simp) rfl
   replace e13 : u13 = .agg #[.int .u8 k, .int .i64 n, .string s, .slice A c.length cap] := e13
   subst e13
   replace h13 : a2.tmps[18]? = some _ := h13
   obtain ⟨u12, h12, e12⟩ := hd ⟨12, .chain⟩ (by simp) rfl
   replace e12 : u12 = .bool true := e12
   subst e12
   replace h12 : a2.tmps[17]? = some _ := h12
   refine RInv.enter (f := 36) (args := #[.agg #[.int .u8 k, .int .i64 n, .string s, .slice A c.length cap]]) h hi rfl (wanted_at rfl rfl h12 rfl) (fun _ => trivial) (by intro c; simp) rfl (by simp [h13, go_sem]) ?_
   refine (callsIn_wide.2 (HT.out _ HSA.out _ _ (HA.out.at_ (Nat.le_refl _) h.cw))).mono ?_
   rintro e V2 ⟨rfl, hb9⟩
   rw [HTA.out]
   exact ⟨_, rfl, h.cw.trans (hb9.mono h.cw.size), fun j u hu => ESpecs.mono hb9 j u hu, rfl⟩
  refine AllFrom.cons (fun listed a2 V h hi hd => ?_) ?_
  ·obtain ⟨u14, h14, e14⟩ := hd ⟨14, .data⟩ (by simp) rfl
   replace e14 : u14 = .bool true := e14
   subst e14
   replace h14 : a2.tmps[19]? = some _ := h14
   obtain ⟨u12, h12, e12⟩ := hd ⟨12, .guard⟩ (by simp) rfl
   replace e12 : u12 = .bool true := e12
   subst e12
   replace h12 : a2.tmps[17]? = some _ := h12
   exact RInv.pure (v := .bool true) h hi rfl (wanted_at rfl rfl h12 rfl) (fun _ => trivial) (by intro c; simp) (by simp [execOp, h14, go_sem]) rfl
  refine AllFrom.cons (fun listed a2 V h hi hd => ?_) ?_
  ·obtain ⟨u15, h15, e15⟩ := hd ⟨15, .guard⟩ (by simp) rfl
   replace e15 : u15 = .bool true := e15
   subst e15
   replace h15 : a2.tmps[20]? = some _ := h15
   have f3 : a2.tmps[3]? = some (.pointer (some ⟨w.heap.size + 1, 0, none⟩)) := h.fixed 3 (by intro j hj; simp only [indS]; split <;> omega)
   have kc0 := (h.cw.cell (p := ⟨w.heap.size + 1, 0, none⟩) (show w.heap.size + 1 < W0.heap.size by omega)).trans z0
   have kc1 := (h.cw.cell (p := ⟨w.heap.size + 1, 1, none⟩) (show w.heap.size + 1 < W0.heap.size by omega)).trans z1
   have kc2 := (h.cw.cell (p := ⟨w.heap.size + 1, 2, none⟩) (show w.heap.size + 1 < W0.heap.size by omega)).trans z2
   have kc3 := (h.cw.cell (p := ⟨w.heap.size + 1, 3, none⟩) (show w.heap.size + 1 < W0.heap.size by omega)).trans z3
   exact RInv.pure (v := .agg #[.int .u8 k', .int .i64 n', .string s', .slice A2 d.length cap2]) h hi rfl (wanted_at rfl rfl h15 rfl) (fun _ => trivial) (by intro c; simp) (by simp [execOp, f3, kc0, kc1, kc2, kc3, go_sem]) rfl
  refine AllFrom.cons (fun listed a2 V h hi hd => ?_) ?_
  ·obtain ⟨u16, h16, e16⟩ := hd ⟨16, .data⟩ (by simp) rfl
   replace e16 : u16 = .agg #[.int .u8 k', .int .i64 n', .string s', .slice A2 d.length cap2] := e16
   subst e16
   replace h16 : a2.tmps[21]? = some _ := h16
   obtain ⟨u15, h15, e15⟩ := hd ⟨15, .chain⟩ (by simp) rfl
   replace e15 : u15 = .bool true := e15
   subst e15
   replace h15 : a2.tmps[20]? = some _ := h15
   refine RInv.enter (f := 36) (args := #[.agg #[.int .u8 k', .int .i64 n', .string s', .slice A2 d.length cap2]]) h hi rfl (wanted_at rfl rfl h15 rfl) (fun _ => trivial) (by intro c; simp) rfl (by simp [h16, go_sem]) ?_
   refine (callsIn_wide.2 (HT.out _ HSB.out _ _ (HB.out.at_ (Nat.le_refl _) h.cw))).mono ?_
   rintro e V2 ⟨rfl, hb9⟩
   rw [HTB.out]
   exact ⟨_, rfl, h.cw.trans (hb9.mono h.cw.size), fun j u hu => ESpecs.mono hb9 j u hu, rfl⟩
  refine AllFrom.cons (fun listed a2 V h hi hd => ?_) ?_
  ·obtain ⟨u15, h15, e15⟩ := hd ⟨15, .data⟩ (by simp) rfl
   replace e15 : u15 = .bool true := e15
   subst e15
   replace h15 : a2.tmps[20]? = some _ := h15
   obtain ⟨u17, h17, e17⟩ := hd ⟨17, .data⟩ (by simp) rfl
   replace e17 : u17 = .bool true := e17
   subst e17
   replace h17 : a2.tmps[22]? = some _ := h17
   obtain ⟨u12, h12, e12⟩ := hd ⟨12, .guard⟩ (by simp) rfl
   replace e12 : u12 = .bool true := e12
   subst e12
   replace h12 : a2.tmps[17]? = some _ := h12
   exact RInv.pure (v := .bool true) h hi rfl (wanted_at rfl rfl h12 rfl) (fun _ => trivial) (by intro c; simp) (by simp [execOp, h15, h17, go_sem]) rfl
  refine AllFrom.cons (fun listed a2 V h hi hd => ?_) ?_
  ·obtain ⟨u18, h18, e18⟩ := hd ⟨18, .data⟩ (by simp) rfl
   replace e18 : u18 = .bool true := e18
   subst e18
   replace h18 : a2.tmps[23]? = some _ := h18
   obtain ⟨u12, h12, e12⟩ := hd ⟨12, .guard⟩ (by simp) rfl
   replace e12 : u12 = .bool true := e12
   subst e12
   replace h12 : a2.tmps[17]? = some _ := h12
   exact RInv.pure (v := .bool false) h hi rfl (wanted_at rfl rfl h12 rfl) (fun _ => trivial) (by intro c; simp) (by simp [execOp, h18, go_sem]) rfl
  refine AllFrom.cons (fun listed a2 V h hi hd => ?_) ?_
  ·obtain ⟨u12, h12, e12⟩ := hd ⟨12, .data⟩ (by simp) rfl
   replace e12 : u12 = .bool true := e12
   subst e12
   replace h12 : a2.tmps[17]? = some _ := h12
   obtain ⟨u19, h19, e19⟩ := hd ⟨19, .data⟩ (by simp) rfl
   replace e19 : u19 = .bool false := e19
   subst e19
   replace h19 : a2.tmps[24]? = some _ := h19
   exact RInv.pure (v := .bool false) h hi rfl (wanted_none rfl) (fun _ => trivial) (by intro c; simp) (by simp [execOp, h12, h19, go_sem]) rfl
  refine AllFrom.cons (fun listed a2 V h hi hd => ?_) ?_
  ·obtain ⟨u20, h20, e20⟩ := hd ⟨20, .data⟩ (by simp) rfl
   replace e20 : u20 = .bool false := e20
   subst e20
   replace h20 : a2.tmps[25]? = some _ := h20
   exact RInv.pure (v := .bool false) h hi rfl (wanted_none rfl) (fun _ => trivial) (by intro c; simp) (by simp [execOp, h20, go_sem]) rfl
  exact trivial
 case fin =>
  rintro a2 V hV hs hdf hfx hph
  obtain ⟨u21, h21, e21⟩ := hph 21 (by omega)
  replace e21 : u21 = .bool false := e21
  subst e21
  replace h21 : a2.tmps[4]? = some _ := h21
  obtain ⟨tm, df⟩ := a2
  have hdf1 : df = [] := hdf
  subst hdf1
  have htm := tm_sets [5, 6, 7, 8, 9, 10, 11, 12, 13, 14, 15, 16, 17, 18, 19, 20, 21, 22, 23, 24, 25, 4] hs (fun t ht => hfx t (fun j hj e => ht (e ▸ (show ∀ j, j < 22 → (indS) j ∈ [5, 6, 7, 8, 9, 10, 11, 12, 13, 14, 15, 16, 17, 18, 19, 20, 21, 22, 23, 24, 25, 4] by decide) j hj)))
  simp only [List.foldl_cons, List.foldl_nil, List.setIfInBounds_toArray, List.set_cons_succ, List.set_cons_zero] at htm
  rw [show tm.getD 4 undef = .bool false from by simp only [Array.getD_eq_getD_getElem?, h21, Option.getD_some]] at htm
  clear hs hdf hfx hph h21
  generalize tm.getD 5 undef = y5 at htm
  generalize tm.getD 6 undef = y6 at htm
  generalize tm.getD 7 undef = y7 at htm
  generalize tm.getD 8 undef = y8 at htm
  generalize tm.getD 9 undef = y9 at htm
  generalize tm.getD 10 undef = y10 at htm
  generalize tm.getD 11 undef = y11 at htm
  generalize tm.getD 12 undef = y12 at htm
  generalize tm.getD 13 undef = y13 at htm
  generalize tm.getD 14 undef = y14 at htm
  generalize tm.getD 15 undef = y15 at htm
  generalize tm.getD 16 undef = y16 at htm
  generalize tm.getD 17 undef = y17 at htm
  generalize tm.getD 18 undef = y18 at htm
  generalize tm.getD 19 undef = y19 at htm
  generalize tm.getD 20 undef = y20 at htm
  generalize tm.getD 21 undef = y21 at htm
  generalize tm.getD 22 undef = y22 at htm
  generalize tm.getD 23 undef = y23 at htm
  generalize tm.getD 24 undef = y24 at htm
  generalize tm.getD 25 undef = y25 at htm
  subst htm
  have HV := Lib.hid hV
  clear hV
  go_wp2_with fail
  go_ret
  exact ⟨rfl, HBW.out.trans (HV.out.mono (by omega))⟩

theorem independent_any {tp : Tr → Bool} (hT : ∀ t : Tr, t.size ≤ 1000000 → Tests 36 tp t) (a b : Tr) (v u : Value) (w : World) (hr : Rep w w.heap.size a v) (hr2 : Rep w w.heap.size b u) (hsz : a.size ≤ 1000000) (hsz2 : b.size ≤ 1000000) :
  Calls Tryz.prog 15 #[v, u] w fun e w' => e = .returned (.bool (indB tp a b)) ∧ Below w.heap.size w w' := by
 cases a with
 | mk k n s c =>
 cases b with
 | mk k' n' s' d =>
 have h1 := hr
 have h2 := hr2
 simp only [Rep] at h1 h2
 obtain ⟨A, cap, rfl, _, _⟩ := h1
 obtain ⟨A2, cap2, rfl, _, _⟩ := h2
 unfold nodeV at *
 unfold indB
 cases hd1 : disj (writesT (.mk k n s c)) (readsT (.mk k' n' s' d))
 ·simpa using ind0 hT k n s c A cap k' n' s' d A2 cap2 w hr hr2 hsz hsz2 hd1
 ·cases hd2 : disj (writesT (.mk k' n' s' d)) (readsT (.mk k n s c))
  ·simpa using ind1 hT k n s c A cap k' n' s' d A2 cap2 w hr hr2 hsz hsz2 hd1 hd2
  ·cases hta : tp (.mk k n s c)
   ·simpa using ind2 hT k n s c A cap k' n' s' d A2 cap2 w hr hr2 hsz hsz2 hd1 hd2 hta
   ·cases htb : tp (.mk k' n' s' d)
    ·simpa using ind3 hT k n s c A cap k' n' s' d A2 cap2 w hr hr2 hsz hsz2 hd1 hd2 hta htb
    ·simpa using ind4 hT k n s c A cap k' n' s' d A2 cap2 w hr hr2 hsz hsz2 hd1 hd2 hta htb
end Go.Proofs.YtkkhjpkkjpcbmaaGreat
