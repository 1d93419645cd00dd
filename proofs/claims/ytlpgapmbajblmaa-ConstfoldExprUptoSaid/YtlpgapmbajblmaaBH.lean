import Derived.Test.YtlpgapmbajblmaaBJ
import Derived.Test.YtlpgapmbajblmaaPred
import Derived.Test.YtlpgapmbajblmaaClone
/- The equality of trees: ast.Equal, slices.EqualFunc over nodes, the reference's Equal. -/
namespace Go.Proofs.Ytlpgapmbajblmaa
open Go.RowKit Go.Shelf

mutual
def eqB : Tr → Tr → Bool
 | .mk k n s c, .mk k' n' s' c' => (k == k') && (n == n') && (s.toList == s'.toList) && eqsB c c'
def eqsB : List Tr → List Tr → Bool
 | [], [] => true
 | a :: q, b :: r => eqB a b && eqsB q r
 | [], _ :: _ => false
 | _ :: _, [] => false
end

theorem eqsB_len : ∀ {c d : List Tr}, c.length ≠ d.length → eqsB c d = false
 | [], [], h => absurd rfl h
 | [], _ :: _, _ => by simp only [eqsB]
 | _ :: _, [], _ => by simp only [eqsB]
 | a :: q, b :: r, h => by
  simp only [eqsB]
  rw [eqsB_len (by simpa using h)]
  simp
theorem eqsB_of : ∀ {c d : List Tr}, c.length = d.length → (∀ (j : Nat) (h : j < c.length) (h' : j < d.length), eqB c[j] d[j] = true) → eqsB c d = true
 | [], [], _, _ => by simp only [eqsB]
 | [], _ :: _, h, _ => by simp at h
 | _ :: _, [], h, _ => by simp at h
 | a :: q, b :: r, h, hall => by
  simp only [eqsB, Bool.and_eq_true]
  exact ⟨hall 0 (by simp) (by simp), eqsB_of (by simpa using h) fun j hj hj' => hall (j + 1) (by simpa using hj) (by simpa using hj')⟩
theorem eqsB_not : ∀ {c d : List Tr} (j : Nat) (h : j < c.length) (h' : j < d.length), eqB c[j] d[j] = false → eqsB c d = false
 | [], _, _, h, _, _ => absurd h (Nat.not_lt_zero _)
 | _ :: _, [], _, _, h, _ => absurd h (Nat.not_lt_zero _)
 | a :: q, b :: r, 0, _, _, e => by
  simp only [eqsB]
  have : eqB a b = false := by simpa using e
  rw [this]
  rfl
 | a :: q, b :: r, j + 1, h, h', e => by
  simp only [eqsB]
  rw [eqsB_not j (by simpa using h) (by simpa using h') (by simpa using e)]
  simp

theorem bytes_loop (q : ByteArray) : ∀ (m i : Nat) (r : List UInt8), q.size - i = m → ByteArray.toList.loop q i r = r.reverse ++ q.data.toList.drop i := by
 have hz : q.data.toList.length = q.size := by simp
 intro m
 induction m with
 | zero =>
  intro i r h
  rw [ByteArray.toList.loop.eq_1, if_neg (by omega), List.drop_eq_nil_of_le (by omega), List.append_nil]
 | succ m ih =>
  intro i r h
  have hi : i < q.data.toList.length := by omega
  rw [ByteArray.toList.loop.eq_1, if_pos (by omega), ih (i + 1) _ (by omega), List.reverse_cons, List.append_assoc, List.drop_eq_getElem_cons hi]
  congr 1
  show q.data[i]! :: _ = _
  rw [getElem!_pos q.data i (by simpa using hi)]
  rfl
theorem bytes_toList {s t : ByteArray} : s.toList = t.toList ↔ s = t := by
 constructor
 ·intro h
  have hd : ∀ q : ByteArray, q.toList = q.data.toList := fun q => by
   rw [ByteArray.toList.eq_1, bytes_loop q _ 0 [] rfl]
   rfl
  rw [hd, hd] at h
  exact ByteArray.ext (Array.toList_inj.1 h)
 ·intro h; rw [h]
mutual
theorem eqB_iff : ∀ (a b : Tr), eqB a b = true ↔ a = b
 | .mk k n s c, .mk k' n' s' c' => by
  have h := eqsB_iff c c'
  simp only [eqB, Bool.and_eq_true, beq_iff_eq, bytes_toList, h, Tr.mk.injEq, and_assoc]
theorem eqsB_iff : ∀ (c d : List Tr), eqsB c d = true ↔ c = d
 | [], [] => by simp only [eqsB]
 | [], _ :: _ => by simp [eqsB]
 | _ :: _, [] => by simp [eqsB]
 | a :: q, b :: r => by
  have h1 := eqB_iff a b
  have h2 := eqsB_iff q r
  simp only [eqsB, Bool.and_eq_true, h1, h2, List.cons.injEq]
end
theorem eqB_refl (a : Tr) : eqB a a = true := (eqB_iff a a).2 rfl
/-- the contract of a test of two nodes -/
def Tests2 (f : Nat) (p : Tr → Tr → Bool) (a b : Tr) : Prop := ∀ (v u : Value) (w : World), Rep w w.heap.size a v → Rep w w.heap.size b u → Calls Try.prog f #[v, u] w fun e w' => e = .returned (.bool (p a b)) ∧ Below w.heap.size w w'

set_option maxHeartbeats 1000000 in
theorem equalFunc_any (c d : List Tr) (hf : ∀ a, a ∈ c → ∀ b, Tests2 26 eqB a b) (A A2 : Option Addr) (cap cap2 : Nat) (w : World) (_hl : c.length ≤ 9223372036854775807) (hl2 : d.length ≤ 9223372036854775807)
  (hrow : RepRow w w.heap.size c A 0) (hrow2 : RepRow w w.heap.size d A2 0) :
  Calls Try.prog 45 #[.slice A c.length cap, .slice A2 d.length cap2, .func (.func 26) #[] #[]] w fun e w' => e = .returned (.bool (eqsB c d)) ∧ Below w.heap.size w w' := by
 have eg : ∀ (args : Array Value) (w : World), (callFunc 26 args).run Try.prog w = .ok (.enter 26 args) w := fun _ _ => by kernel_rfl
 have HF := Lib.hid hf
 have HR := Lib.hid hrow
 have HR2 := Lib.hid hrow2
 clear hf hrow hrow2
 by_cases hlen : c.length = d.length
 ·have hne : ((c.length : Int) != (d.length : Int)) = false := by simp [hlen]
  have HL := Lib.hid hlen
  have hle1 : c.length ≤ d.length := by omega
  clear hlen
  go_enter Try.func45, Try.ntmps45
  go_wp2_with fail
  go_loopw [17] (fun i wr => ∃ k : Nat, k ≤ c.length ∧ i = .int .i64 k ∧ Hid (∀ (j : Nat) (h : j < c.length) (h' : j < d.length), j < k → eqB c[j] d[j] = true) ∧ Below w.heap.size w wr) (fun i _ => c.length - (intOf i).toNat)
  case atStart => exact ⟨0, Nat.zero_le _, rfl, fun j _ _ h => absurd h (Nat.not_lt_zero _), Below.refl _ _⟩
  case round =>
   obtain ⟨i, hi, rfl, hall, hb⟩ := hrel
   by_cases hlt : i < c.length
   ·have hlt2 : i < d.length := by omega
    obtain ⟨b, off, A', cap', rfl, hbB, h0, h1, h2, h3, hk⟩ := (HR.out.below hb).kid i hlt
    obtain ⟨b', off', A'', cap'', rfl, hbB', g0, g1, g2, g3, hk'⟩ := (HR2.out.below hb).kid i hlt2
    have hws := hb.size
    have HA : Below wr.heap.size wr (wr.alloc (.cells #[.int .u8 c[i].kind, .int .i64 c[i].num, .string c[i].name, .slice A' c[i].kids.length cap'] 24)) := (Below.refl _ _).alloc (Nat.le_refl _) _
    have q0 := (HA.cell (p := ⟨b', off' + i * 4, none⟩) (show b' < wr.heap.size by omega)).trans g0
    have q1 := (HA.cell (p := ⟨b', off' + i * 4 + 1, none⟩) (show b' < wr.heap.size by omega)).trans g1
    have q2 := (HA.cell (p := ⟨b', off' + i * 4 + 2, none⟩) (show b' < wr.heap.size by omega)).trans g2
    have q3 := (HA.cell (p := ⟨b', off' + i * 4 + 3, none⟩) (show b' < wr.heap.size by omega)).trans g3
    have HT := Lib.hid (HF.out c[i] (List.getElem_mem hlt) d[i])
    have HK := Lib.hid hk
    have HK' := Lib.hid hk'
    clear hk hk' HA g0 g1 g2 g3
    cases hp : eqB c[i] d[i]
    ·have HP := Lib.hid hp
     clear hp
     go_wp2_with fail
     refine (HT.out _ _ _ (((HK.out.alloc hws _).alloc (Nat.le_refl _) _)) (((HK'.out.alloc hws _).alloc (Nat.le_refl _) _))).mono ?_
     rw [HP.out]
     rintro e w1 ⟨rfl, hb1⟩
     have hb2 := ((hb.alloc hws _).alloc (by simp; omega) _).trans (hb1.mono (by simp; omega))
     clear hb1
     go_wp2_with fail
     go_ret
     exact ⟨by simp [eqsB_not i hlt hlt2 HP.out], hb2⟩
    ·have HP := Lib.hid hp
     clear hp
     go_wp2_with fail
     refine (HT.out _ _ _ (((HK.out.alloc hws _).alloc (Nat.le_refl _) _)) (((HK'.out.alloc hws _).alloc (Nat.le_refl _) _))).mono ?_
     rw [HP.out]
     rintro e w1 ⟨rfl, hb1⟩
     have hb2 := ((hb.alloc hws _).alloc (by simp; omega) _).trans (hb1.mono (by simp; omega))
     clear hb1
     go_wp2_with fail
     go_roundw
     case rel =>
      refine ⟨i + 1, by omega, by go_num, fun j h h' hj => ?_, hb2⟩
      by_cases e : j = i
      ·subst e; exact HP.out
      ·exact hall.out j h h' (by omega)
     case measure => simp [intOf]; omega
   ·obtain rfl : i = c.length := by omega
    go_wp2_with fail
    go_ret
    exact ⟨by simp [eqsB_of HL.out fun j h h' => hall.out j h h' h], hb⟩
 ·have hne : ((c.length : Int) != (d.length : Int)) = true := by simp; omega
  have HL := Lib.hid hlen
  clear hlen
  go_enter Try.func45, Try.ntmps45
  go_wp2_with fail
  go_ret
  exact ⟨by simp [eqsB_len HL.out], Below.refl _ _⟩

set_option maxHeartbeats 1000000 in
theorem equal_any (a : Tr) : ∀ b, Tests2 26 eqB a b := by
 induction a using Tr.ind with
 | h k n s c ih =>
 intro b
 cases b with
 | mk k' n' s' d =>
 intro v u w hr hr2
 simp only [Rep] at hr hr2
 obtain ⟨A, cap, rfl, hf, hrow⟩ := hr
 obtain ⟨A2, cap2, rfl, hf2, hrow2⟩ := hr2
 unfold nodeV
 have HR := Lib.hid hrow
 have HR2 := Lib.hid hrow2
 have HI := Lib.hid ih
 have HF := Lib.hid hf
 have HF2 := Lib.hid hf2
 clear hrow hrow2 ih hf hf2
 cases hk : (k == k')
 ·go_enter Try.func26, Try.ntmps26
  go_wp2_with fail
  go_ret
  exact ⟨by simp [eqB, hk], ((Below.refl _ _).alloc (Nat.le_refl _) _).alloc (by simp) _⟩
 ·cases hn : (n == n')
  ·go_enter Try.func26, Try.ntmps26
   go_wp2_with fail
   go_ret
   exact ⟨by simp [eqB, hn], ((Below.refl _ _).alloc (Nat.le_refl _) _).alloc (by simp) _⟩
  ·cases hs : (s.toList == s'.toList)
   ·go_enter Try.func26, Try.ntmps26
    go_wp2_with fail
    go_ret
    exact ⟨by simp [eqB, hs], ((Below.refl _ _).alloc (Nat.le_refl _) _).alloc (by simp) _⟩
   ·have HK := Lib.hid hk
    have HN := Lib.hid hn
    have HS := Lib.hid hs
    go_enter Try.func26, Try.ntmps26
    go_wp2_with fail
    have hA := ((Below.refl w.heap.size w).alloc (Nat.le_refl _) (.cells #[.int .u8 k, .int .i64 n, .string s, .slice A c.length cap] 24)).alloc (by simp) (.cells #[.int .u8 k', .int .i64 n', .string s', .slice A2 d.length cap2] 24)
    have l1 := HF.out.l1
    have l2 := HF.out.c1
    have l3 := HF2.out.l1
    have l4 := HF2.out.c1
    refine (equalFunc_any c d (fun a ha b => HI.out a ha b) A A2 cap cap2 _ (by omega) (by omega) ((HR.out.below hA).more hA.size) ((HR2.out.below hA).more hA.size)).mono ?_
    rintro e w1 ⟨rfl, hb1⟩
    have hb2 := hA.trans (hb1.mono hA.size)
    clear hb1 hA
    go_wp2_with fail
    go_ret
    exact ⟨by simp [eqB, HK.out, HN.out, HS.out], hb2⟩

end Go.Proofs.Ytlpgapmbajblmaa

/- An act behind a region: the act ahead, but for the region's slots. -/
namespace Go.Proofs.Ytlpgapmbajblmaa

theorem sets_at (tm : Array Value) : ∀ (sl : List Nat) (a : Array Value) (t : Nat), a.size = tm.size → (sl.foldl (fun a t => a.setIfInBounds t (tm.getD t undef)) a)[t]? = if t ∈ sl then tm[t]? else a[t]?
 | [], a, t, _ => by simp
 | q :: r, a, t, h => by
  rw [List.foldl_cons, sets_at tm r _ t (by simpa using h)]
  by_cases ht : t ∈ r
  ·simp [ht]
  ·by_cases e : q = t
   ·subst e
    simp only [ht, if_false, List.mem_cons, true_or, if_true]
    rw [Array.getElem?_setIfInBounds]
    simp only [if_true, h]
    rcases Nat.lt_or_ge q tm.size with hl | hl
    ·simp [hl]
    ·simp [Nat.not_lt.2 hl]
   ·have e' : ¬ t = q := fun x => e x.symm
    simp only [ht, if_false, List.mem_cons, e', or_self]
    rw [Array.getElem?_setIfInBounds_ne e]

theorem tm_sets {a0 tm : Array Value} (sl : List Nat) (hs : tm.size = a0.size) (hfx : ∀ t, t ∉ sl → tm[t]? = a0[t]?) : tm = sl.foldl (fun a t => a.setIfInBounds t (tm.getD t undef)) a0 := by
 apply Array.ext_getElem?
 intro t
 rw [sets_at tm sl a0 t hs.symm]
 by_cases h : t ∈ sl
 ·rw [if_pos h]
 ·rw [if_neg h]; exact hfx t h

end Go.Proofs.Ytlpgapmbajblmaa

/- The reference's equality of trees. -/
namespace Go.Proofs.Ytlpgapmbajblmaa
open Go.RowKit Go.Shelf

set_option maxRecDepth 100000 in
set_option maxHeartbeats 2000000 in
theorem rEqual_any (a : Tr) : ∀ b, Tests2 17 eqB a b := by
 have hmo : Try.prog.follows .mixedOrders = true := by kernel_rfl
 induction a using Tr.ind with
 | h k n s c ih =>
 intro b
 cases b with
 | mk k' n' s' d =>
 intro v u w hr hr2
 simp only [Rep] at hr hr2
 obtain ⟨A, cap, rfl, hf, hrow⟩ := hr
 obtain ⟨A2, cap2, rfl, hf2, hrow2⟩ := hr2
 unfold nodeV
 have l1 := hf.l1
 have l2 := hf.c1
 have l3 := hf2.l1
 have l4 := hf2.c1
 have HR := Lib.hid hrow
 have HR2 := Lib.hid hrow2
 have HI := Lib.hid ih
 clear hrow hrow2 ih hf hf2
 cases hk : (k != k')
 case true =>
  have HK := Lib.hid hk
  go_enter Try.func17, Try.ntmps17
  go_wp2_with fail
  go_ret
  exact ⟨by simp [eqB, show (k == k') = false by simpa using hk], ((Below.refl _ _).alloc (Nat.le_refl _) _).alloc (by simp) _⟩
 case false =>
 cases hn : (n != n')
 case true =>
  go_enter Try.func17, Try.ntmps17
  go_wp2_with fail
  go_ret
  exact ⟨by simp [eqB, show (n == n') = false by simpa using hn], ((Below.refl _ _).alloc (Nat.le_refl _) _).alloc (by simp) _⟩
 case false =>
 cases hs : (s.toList == s'.toList)
 case false =>
  go_enter Try.func17, Try.ntmps17
  go_wp2_with fail
  go_ret
  exact ⟨by simp [eqB, hs], ((Below.refl _ _).alloc (Nat.le_refl _) _).alloc (by simp) _⟩
 case true =>
 by_cases hlen : c.length = d.length
 case neg =>
  have hne : ((c.length : Int) != (d.length : Int)) = true := by simp; omega
  have HL := Lib.hid hlen
  clear hlen
  go_enter Try.func17, Try.ntmps17
  go_wp2_with fail
  go_ret
  exact ⟨by simp [eqB, eqsB_len HL.out], ((Below.refl _ _).alloc (Nat.le_refl _) _).alloc (by simp) _⟩
 case pos =>
  have hne : ((c.length : Int) != (d.length : Int)) = false := by simp [hlen]
  have HL := Lib.hid hlen
  have hle1 : c.length ≤ d.length := by omega
  clear hlen
  go_enter Try.func17, Try.ntmps17
  go_wp2_with fail
  go_loopw [5] (fun i wr => ∃ q : Nat, q ≤ c.length ∧ i = .int .i64 q ∧ Hid (∀ (j : Nat) (h : j < c.length) (h' : j < d.length), j < q → eqB c[j] d[j] = true) ∧ Below (w.heap.size + 2) ((w.alloc (.cells #[.int .u8 k, .int .i64 n, .string s, .slice A c.length cap] 24)).alloc (.cells #[.int .u8 k', .int .i64 n', .string s', .slice A2 d.length cap2] 24)) wr) (fun i _ => c.length - (intOf i).toNat)
  case atStart => exact ⟨0, Nat.zero_le _, rfl, fun j _ _ h => absurd h (Nat.not_lt_zero _), Below.refl _ _⟩
  case round =>
   obtain ⟨i, hi, rfl, hall, hbw⟩ := hrel
   have hbb : Below w.heap.size w wr := (((Below.refl _ _).alloc (Nat.le_refl _) _).alloc (by simp) _).trans (hbw.mono (by omega))
   have hws := hbw.size
   simp only [World.size_alloc] at hws
   obtain ⟨bx1, bx2⟩ := two_boxes hbw
   have x3 : wr.cell? ⟨w.heap.size, 3, none⟩ = some (.slice A c.length cap) := cell_of_row _ _ 3 _ _ _ bx1
   have z3 : wr.cell? ⟨w.heap.size + 1, 3, none⟩ = some (.slice A2 d.length cap2) := cell_of_row _ _ 3 _ _ _ bx2
   by_cases hlt : i < c.length
   ·have hlt2 : i < d.length := by omega
    obtain ⟨b, off, A', cap', rfl, hbB, ra, rb, rc, rd, hk1⟩ := (HR.out.below hbb).kid i hlt
    obtain ⟨b', off', A'', cap'', rfl, hbB', ga, gb, gc, gd, hk2⟩ := (HR2.out.below hbb).kid i hlt2
    have HT := Lib.hid (HI.out c[i] (List.getElem_mem hlt) d[i])
    have HK := Lib.hid (hk1.more hbb.size)
    have HK2 := Lib.hid (hk2.more hbb.size)
    clear hk1 hk2
    cases hp : eqB c[i] d[i]
    case false =>
     have HP := Lib.hid hp
     clear hp
     go_wp2_with fail
     refine wpIn_wide (n := 0) |>.1 (region_all (N := 12) (s := fun i => 41 + i) hmo rfl (by kernel_rfl) (fun V => Below wr.heap.size wr V) (Specs ([.is (.pointer (some ⟨w.heap.size, 3, none⟩)), .is (.slice (some ⟨b, off, none⟩) c.length cap), .is (.int .i64 (i : Int)), .is (.pointer (some ⟨b, off + i * 4, none⟩)), .is (.agg #[.int .u8 c[i].kind, .int .i64 c[i].num, .string c[i].name, .slice A' c[i].kids.length cap']), .is (.pointer (some ⟨w.heap.size + 1, 3, none⟩)), .is (.slice (some ⟨b', off', none⟩) d.length cap2), .is (.int .i64 (i : Int)), .is ((.pointer (some ⟨b', off' + i * 4, none⟩))), .is (.agg #[.int .u8 d[i].kind, .int .i64 d[i].num, .string d[i].name, .slice A'' d[i].kids.length cap'']), .is (.bool false), .is (.bool true)])) (by intro j hj; simp; omega) (by intro i j _ _ e; simp at e; omega) (Below.refl _ wr).drew ?steps ?fin)
     case steps =>
      show AllFrom _ 0 (_ :: _)
      refine AllFrom.cons (fun listed a2 V h hi hd => ?_) ?_
      ·have f2 : a2.tmps[2]? = some (.pointer (some ⟨w.heap.size, 0, none⟩)) := h.fixed 2 (by intro j hj; skip; simp; omega)
       exact RInv.pure (v := .pointer (some ⟨w.heap.size, 3, none⟩)) h hi rfl (wanted_none rfl) (fun _ => trivial) (by intro c; simp) (by simp [execOp, f2, go_sem]) rfl
      refine AllFrom.cons (fun listed a2 V h hi hd => ?_) ?_
      ·obtain ⟨u0, h0, e0⟩ := hd ⟨0, .data⟩ (by simp) rfl
       replace e0 : u0 = .pointer (some ⟨w.heap.size, 3, none⟩) := e0
       subst e0
       replace h0 : a2.tmps[41]? = some _ := h0
       have kc := (h.cw.cell (p := ⟨w.heap.size, 3, none⟩) (show w.heap.size < wr.heap.size by omega)).trans x3
       exact RInv.pure (v := .slice (some ⟨b, off, none⟩) c.length cap) h hi rfl (wanted_none rfl) (fun _ => trivial) (by intro c; simp) (by simp [execOp, h0, kc, go_sem]) rfl
      refine AllFrom.cons (fun listed a2 V h hi hd => ?_) ?_
      ·have f5 : a2.tmps[5]? = some (.int .i64 (i : Int)) := h.fixed 5 (by intro j hj; skip; simp; omega)
       exact RInv.pure (v := .int .i64 (i : Int)) h hi rfl (wanted_none rfl) (fun _ => trivial) (by intro c; simp) (by simp [execOp, f5, go_sem]) rfl
      refine AllFrom.cons (fun listed a2 V h hi hd => ?_) ?_
      ·obtain ⟨u1, h1, e1⟩ := hd ⟨1, .data⟩ (by simp) rfl
       replace e1 : u1 = .slice (some ⟨b, off, none⟩) c.length cap := e1
       subst e1
       replace h1 : a2.tmps[42]? = some _ := h1
       obtain ⟨u2, h2, e2⟩ := hd ⟨2, .data⟩ (by simp) rfl
       replace e2 : u2 = .int .i64 (i : Int) := e2
       subst e2
       replace h2 : a2.tmps[43]? = some _ := h2
       exact RInv.pure (v := .pointer (some ⟨b, off + i * 4, none⟩)) h hi rfl (wanted_none rfl) (fun _ => trivial) (by intro c; simp) (by simp [execOp, h1, h2, hlt, go_sem]) rfl
      refine AllFrom.cons (fun listed a2 V h hi hd => ?_) ?_
      ·obtain ⟨u3, h3, e3⟩ := hd ⟨3, .data⟩ (by simp) rfl
       replace e3 : u3 = .pointer (some ⟨b, off + i * 4, none⟩) := e3
       subst e3
       replace h3 : a2.tmps[44]? = some _ := h3
       have kc0 := (h.cw.cell (p := ⟨b, off + i * 4, none⟩) (show b < wr.heap.size by omega)).trans ra
       have kc1 := (h.cw.cell (p := ⟨b, off + i * 4 + 1, none⟩) (show b < wr.heap.size by omega)).trans rb
       have kc2 := (h.cw.cell (p := ⟨b, off + i * 4 + 2, none⟩) (show b < wr.heap.size by omega)).trans rc
       have kc3 := (h.cw.cell (p := ⟨b, off + i * 4 + 3, none⟩) (show b < wr.heap.size by omega)).trans rd
       exact RInv.pure (v := .agg #[.int .u8 c[i].kind, .int .i64 c[i].num, .string c[i].name, .slice A' c[i].kids.length cap']) h hi rfl (wanted_none rfl) (fun _ => trivial) (by intro c; simp) (by simp [execOp, h3, kc0, kc1, kc2, kc3, go_sem]) rfl
      refine AllFrom.cons (fun listed a2 V h hi hd => ?_) ?_
      ·have f3 : a2.tmps[3]? = some (.pointer (some ⟨w.heap.size + 1, 0, none⟩)) := h.fixed 3 (by intro j hj; skip; simp; omega)
       exact RInv.pure (v := .pointer (some ⟨w.heap.size + 1, 3, none⟩)) h hi rfl (wanted_none rfl) (fun _ => trivial) (by intro c; simp) (by simp [execOp, f3, go_sem]) rfl
      refine AllFrom.cons (fun listed a2 V h hi hd => ?_) ?_
      ·obtain ⟨u5, h5, e5⟩ := hd ⟨5, .data⟩ (by simp) rfl
       replace e5 : u5 = .pointer (some ⟨w.heap.size + 1, 3, none⟩) := e5
       subst e5
       replace h5 : a2.tmps[46]? = some _ := h5
       have kc := (h.cw.cell (p := ⟨w.heap.size + 1, 3, none⟩) (show w.heap.size + 1 < wr.heap.size by omega)).trans z3
       exact RInv.pure (v := .slice (some ⟨b', off', none⟩) d.length cap2) h hi rfl (wanted_none rfl) (fun _ => trivial) (by intro c; simp) (by simp [execOp, h5, kc, go_sem]) rfl
      refine AllFrom.cons (fun listed a2 V h hi hd => ?_) ?_
      ·have f5 : a2.tmps[5]? = some (.int .i64 (i : Int)) := h.fixed 5 (by intro j hj; skip; simp; omega)
       exact RInv.pure (v := .int .i64 (i : Int)) h hi rfl (wanted_none rfl) (fun _ => trivial) (by intro c; simp) (by simp [execOp, f5, go_sem]) rfl
      refine AllFrom.cons (fun listed a2 V h hi hd => ?_) ?_
      ·obtain ⟨u6, h6, e6⟩ := hd ⟨6, .data⟩ (by simp) rfl
       replace e6 : u6 = .slice (some ⟨b', off', none⟩) d.length cap2 := e6
       subst e6
       replace h6 : a2.tmps[47]? = some _ := h6
       obtain ⟨u7, h7, e7⟩ := hd ⟨7, .data⟩ (by simp) rfl
       replace e7 : u7 = .int .i64 (i : Int) := e7
       subst e7
       replace h7 : a2.tmps[48]? = some _ := h7
       exact RInv.pure (v := (.pointer (some ⟨b', off' + i * 4, none⟩))) h hi rfl (wanted_none rfl) (fun _ => trivial) (by intro c; simp) (by simp [execOp, h6, h7, hlt2, go_sem]) rfl
      refine AllFrom.cons (fun listed a2 V h hi hd => ?_) ?_
      ·obtain ⟨u8, h8, e8⟩ := hd ⟨8, .data⟩ (by simp) rfl
       replace e8 : u8 = (.pointer (some ⟨b', off' + i * 4, none⟩)) := e8
       subst e8
       replace h8 : a2.tmps[49]? = some _ := h8
       have kc0 := (h.cw.cell (p := ⟨b', off' + i * 4, none⟩) (show b' < wr.heap.size by omega)).trans ga
       have kc1 := (h.cw.cell (p := ⟨b', off' + i * 4 + 1, none⟩) (show b' < wr.heap.size by omega)).trans gb
       have kc2 := (h.cw.cell (p := ⟨b', off' + i * 4 + 2, none⟩) (show b' < wr.heap.size by omega)).trans gc
       have kc3 := (h.cw.cell (p := ⟨b', off' + i * 4 + 3, none⟩) (show b' < wr.heap.size by omega)).trans gd
       exact RInv.pure (v := .agg #[.int .u8 d[i].kind, .int .i64 d[i].num, .string d[i].name, .slice A'' d[i].kids.length cap'']) h hi rfl (wanted_none rfl) (fun _ => trivial) (by intro c; simp) (by simp [execOp, h8, kc0, kc1, kc2, kc3, go_sem]) rfl
      refine AllFrom.cons (fun listed a2 V h hi hd => ?_) ?_
      ·obtain ⟨u4, h4, e4⟩ := hd ⟨4, .data⟩ (by simp) rfl
       replace e4 : u4 = .agg #[.int .u8 c[i].kind, .int .i64 c[i].num, .string c[i].name, .slice A' c[i].kids.length cap'] := e4
       subst e4
       replace h4 : a2.tmps[45]? = some _ := h4
       obtain ⟨u9, h9, e9⟩ := hd ⟨9, .data⟩ (by simp) rfl
       replace e9 : u9 = .agg #[.int .u8 d[i].kind, .int .i64 d[i].num, .string d[i].name, .slice A'' d[i].kids.length cap''] := e9
       subst e9
       replace h9 : a2.tmps[50]? = some _ := h9
       refine RInv.enter (f := 17) (args := #[.agg #[.int .u8 c[i].kind, .int .i64 c[i].num, .string c[i].name, .slice A' c[i].kids.length cap'], .agg #[.int .u8 d[i].kind, .int .i64 d[i].num, .string d[i].name, .slice A'' d[i].kids.length cap'']]) h hi rfl (wanted_none rfl) (fun _ => trivial) (by intro c; simp) rfl (by simp [h4, h9, go_sem]) ?_
       refine (callsIn_wide.2 (HT.out _ _ _ (HK.out.at_ (Nat.le_refl _) h.cw) (HK2.out.at_ (Nat.le_refl _) h.cw))).mono ?_
       rw [HP.out]
       rintro e V2 ⟨rfl, hq1⟩
       exact ⟨_, rfl, h.cw.trans (hq1.mono h.cw.size), Specs.mono hq1, rfl⟩
      refine AllFrom.cons (fun listed a2 V h hi hd => ?_) ?_
      ·obtain ⟨u10, h10, e10⟩ := hd ⟨10, .data⟩ (by simp) rfl
       replace e10 : u10 = .bool false := e10
       subst e10
       replace h10 : a2.tmps[51]? = some _ := h10
       exact RInv.pure (v := .bool true) h hi rfl (wanted_none rfl) (fun _ => trivial) (by intro c; simp) (by simp [execOp, h10, go_sem]) rfl
      exact trivial
     case fin =>
      rintro a2 V hV hs hdf hfx hph
      obtain ⟨u11, h11, e11⟩ := hph 11 (by omega)
      replace e11 : u11 = .bool true := e11
      subst e11
      replace h11 : a2.tmps[52]? = some _ := h11
      obtain ⟨tm, df⟩ := a2
      have hdf1 : df = [] := hdf
      subst hdf1
      have htm := tm_sets [41, 42, 43, 44, 45, 46, 47, 48, 49, 50, 51, 52] hs (fun t ht => hfx t (fun j hj e => ht (e ▸ (show ∀ j, j < 12 → (fun i => 41 + i) j ∈ [41, 42, 43, 44, 45, 46, 47, 48, 49, 50, 51, 52] by decide) j hj)))
      simp only [List.foldl_cons, List.foldl_nil, List.setIfInBounds_toArray, List.set_cons_succ, List.set_cons_zero] at htm
      rw [show tm.getD 52 undef = .bool true from by simp only [Array.getD_eq_getD_getElem?, h11, Option.getD_some]] at htm
      clear hs hdf hfx hph h11
      generalize tm.getD 41 undef = y41 at htm
      generalize tm.getD 42 undef = y42 at htm
      generalize tm.getD 43 undef = y43 at htm
      generalize tm.getD 44 undef = y44 at htm
      generalize tm.getD 45 undef = y45 at htm
      generalize tm.getD 46 undef = y46 at htm
      generalize tm.getD 47 undef = y47 at htm
      generalize tm.getD 48 undef = y48 at htm
      generalize tm.getD 49 undef = y49 at htm
      generalize tm.getD 50 undef = y50 at htm
      generalize tm.getD 51 undef = y51 at htm
      subst htm
      have HV := Lib.hid hV
      clear hV
      go_wp2_with fail
      go_ret
      exact ⟨by simp [eqB, eqsB_not i hlt hlt2 HP.out], hbb.trans (HV.out.mono (by omega))⟩
    case true =>
     have HP := Lib.hid hp
     clear hp
     go_wp2_with fail
     refine wpIn_wide (n := 0) |>.1 (region_all (N := 12) (s := fun i => 41 + i) hmo rfl (by kernel_rfl) (fun V => Below wr.heap.size wr V) (Specs ([.is (.pointer (some ⟨w.heap.size, 3, none⟩)), .is (.slice (some ⟨b, off, none⟩) c.length cap), .is (.int .i64 (i : Int)), .is (.pointer (some ⟨b, off + i * 4, none⟩)), .is (.agg #[.int .u8 c[i].kind, .int .i64 c[i].num, .string c[i].name, .slice A' c[i].kids.length cap']), .is (.pointer (some ⟨w.heap.size + 1, 3, none⟩)), .is (.slice (some ⟨b', off', none⟩) d.length cap2), .is (.int .i64 (i : Int)), .is ((.pointer (some ⟨b', off' + i * 4, none⟩))), .is (.agg #[.int .u8 d[i].kind, .int .i64 d[i].num, .string d[i].name, .slice A'' d[i].kids.length cap'']), .is (.bool true), .is (.bool false)])) (by intro j hj; simp; omega) (by intro i j _ _ e; simp at e; omega) (Below.refl _ wr).drew ?steps ?fin)
     case steps =>
      show AllFrom _ 0 (_ :: _)
      refine AllFrom.cons (fun listed a2 V h hi hd => ?_) ?_
      ·have f2 : a2.tmps[2]? = some (.pointer (some ⟨w.heap.size, 0, none⟩)) := h.fixed 2 (by intro j hj; skip; simp; omega)
       exact RInv.pure (v := .pointer (some ⟨w.heap.size, 3, none⟩)) h hi rfl (wanted_none rfl) (fun _ => trivial) (by intro c; simp) (by simp [execOp, f2, go_sem]) rfl
      refine AllFrom.cons (fun listed a2 V h hi hd => ?_) ?_
      ·obtain ⟨u0, h0, e0⟩ := hd ⟨0, .data⟩ (by simp) rfl
       replace e0 : u0 = .pointer (some ⟨w.heap.size, 3, none⟩) := e0
       subst e0
       replace h0 : a2.tmps[41]? = some _ := h0
       have kc := (h.cw.cell (p := ⟨w.heap.size, 3, none⟩) (show w.heap.size < wr.heap.size by omega)).trans x3
       exact RInv.pure (v := .slice (some ⟨b, off, none⟩) c.length cap) h hi rfl (wanted_none rfl) (fun _ => trivial) (by intro c; simp) (by simp [execOp, h0, kc, go_sem]) rfl
      refine AllFrom.cons (fun listed a2 V h hi hd => ?_) ?_
      ·have f5 : a2.tmps[5]? = some (.int .i64 (i : Int)) := h.fixed 5 (by intro j hj; skip; simp; omega)
       exact RInv.pure (v := .int .i64 (i : Int)) h hi rfl (wanted_none rfl) (fun _ => trivial) (by intro c; simp) (by simp [execOp, f5, go_sem]) rfl
      refine AllFrom.cons (fun listed a2 V h hi hd => ?_) ?_
      ·obtain ⟨u1, h1, e1⟩ := hd ⟨1, .data⟩ (by simp) rfl
       replace e1 : u1 = .slice (some ⟨b, off, none⟩) c.length cap := e1
       subst e1
       replace h1 : a2.tmps[42]? = some _ := h1
       obtain ⟨u2, h2, e2⟩ := hd ⟨2, .data⟩ (by simp) rfl
       replace e2 : u2 = .int .i64 (i : Int) := e2
       subst e2
       replace h2 : a2.tmps[43]? = some _ := h2
       exact RInv.pure (v := .pointer (some ⟨b, off + i * 4, none⟩)) h hi rfl (wanted_none rfl) (fun _ => trivial) (by intro c; simp) (by simp [execOp, h1, h2, hlt, go_sem]) rfl
      refine AllFrom.cons (fun listed a2 V h hi hd => ?_) ?_
      ·obtain ⟨u3, h3, e3⟩ := hd ⟨3, .data⟩ (by simp) rfl
       replace e3 : u3 = .pointer (some ⟨b, off + i * 4, none⟩) := e3
       subst e3
       replace h3 : a2.tmps[44]? = some _ := h3
       have kc0 := (h.cw.cell (p := ⟨b, off + i * 4, none⟩) (show b < wr.heap.size by omega)).trans ra
       have kc1 := (h.cw.cell (p := ⟨b, off + i * 4 + 1, none⟩) (show b < wr.heap.size by omega)).trans rb
       have kc2 := (h.cw.cell (p := ⟨b, off + i * 4 + 2, none⟩) (show b < wr.heap.size by omega)).trans rc
       have kc3 := (h.cw.cell (p := ⟨b, off + i * 4 + 3, none⟩) (show b < wr.heap.size by omega)).trans rd
       exact RInv.pure (v := .agg #[.int .u8 c[i].kind, .int .i64 c[i].num, .string c[i].name, .slice A' c[i].kids.length cap']) h hi rfl (wanted_none rfl) (fun _ => trivial) (by intro c; simp) (by simp [execOp, h3, kc0, kc1, kc2, kc3, go_sem]) rfl
      refine AllFrom.cons (fun listed a2 V h hi hd => ?_) ?_
      ·have f3 : a2.tmps[3]? = some (.pointer (some ⟨w.heap.size + 1, 0, none⟩)) := h.fixed 3 (by intro j hj; skip; simp; omega)
       exact RInv.pure (v := .pointer (some ⟨w.heap.size + 1, 3, none⟩)) h hi rfl (wanted_none rfl) (fun _ => trivial) (by intro c; simp) (by simp [execOp, f3, go_sem]) rfl
      refine AllFrom.cons (fun listed a2 V h hi hd => ?_) ?_
      ·obtain ⟨u5, h5, e5⟩ := hd ⟨5, .data⟩ (by simp) rfl
       replace e5 : u5 = .pointer (some ⟨w.heap.size + 1, 3, none⟩) := e5
       subst e5
       replace h5 : a2.tmps[46]? = some _ := h5
       have kc := (h.cw.cell (p := ⟨w.heap.size + 1, 3, none⟩) (show w.heap.size + 1 < wr.heap.size by omega)).trans z3
       exact RInv.pure (v := .slice (some ⟨b', off', none⟩) d.length cap2) h hi rfl (wanted_none rfl) (fun _ => trivial) (by intro c; simp) (by simp [execOp, h5, kc, go_sem]) rfl
      refine AllFrom.cons (fun listed a2 V h hi hd => ?_) ?_
      ·have f5 : a2.tmps[5]? = some (.int .i64 (i : Int)) := h.fixed 5 (by intro j hj; skip; simp; omega)
       exact RInv.pure (v := .int .i64 (i : Int)) h hi rfl (wanted_none rfl) (fun _ => trivial) (by intro c; simp) (by simp [execOp, f5, go_sem]) rfl
      refine AllFrom.cons (fun listed a2 V h hi hd => ?_) ?_
      ·obtain ⟨u6, h6, e6⟩ := hd ⟨6, .data⟩ (by simp) rfl
       replace e6 : u6 = .slice (some ⟨b', off', none⟩) d.length cap2 := e6
       subst e6
       replace h6 : a2.tmps[47]? = some _ := h6
       obtain ⟨u7, h7, e7⟩ := hd ⟨7, .data⟩ (by simp) rfl
       replace e7 : u7 = .int .i64 (i : Int) := e7
       subst e7
       replace h7 : a2.tmps[48]? = some _ := h7
       exact RInv.pure (v := (.pointer (some ⟨b', off' + i * 4, none⟩))) h hi rfl (wanted_none rfl) (fun _ => trivial) (by intro c; simp) (by simp [execOp, h6, h7, hlt2, go_sem]) rfl
      refine AllFrom.cons (fun listed a2 V h hi hd => ?_) ?_
      ·obtain ⟨u8, h8, e8⟩ := hd ⟨8, .data⟩ (by simp) rfl
       replace e8 : u8 = (.pointer (some ⟨b', off' + i * 4, none⟩)) := e8
       subst e8
       replace h8 : a2.tmps[49]? = some _ := h8
       have kc0 := (h.cw.cell (p := ⟨b', off' + i * 4, none⟩) (show b' < wr.heap.size by omega)).trans ga
       have kc1 := (h.cw.cell (p := ⟨b', off' + i * 4 + 1, none⟩) (show b' < wr.heap.size by omega)).trans gb
       have kc2 := (h.cw.cell (p := ⟨b', off' + i * 4 + 2, none⟩) (show b' < wr.heap.size by omega)).trans gc
       have kc3 := (h.cw.cell (p := ⟨b', off' + i * 4 + 3, none⟩) (show b' < wr.heap.size by omega)).trans gd
       exact RInv.pure (v := .agg #[.int .u8 d[i].kind, .int .i64 d[i].num, .string d[i].name, .slice A'' d[i].kids.length cap'']) h hi rfl (wanted_none rfl) (fun _ => trivial) (by intro c; simp) (by simp [execOp, h8, kc0, kc1, kc2, kc3, go_sem]) rfl
      refine AllFrom.cons (fun listed a2 V h hi hd => ?_) ?_
      ·obtain ⟨u4, h4, e4⟩ := hd ⟨4, .data⟩ (by simp) rfl
       replace e4 : u4 = .agg #[.int .u8 c[i].kind, .int .i64 c[i].num, .string c[i].name, .slice A' c[i].kids.length cap'] := e4
       subst e4
       replace h4 : a2.tmps[45]? = some _ := h4
       obtain ⟨u9, h9, e9⟩ := hd ⟨9, .data⟩ (by simp) rfl
       replace e9 : u9 = .agg #[.int .u8 d[i].kind, .int .i64 d[i].num, .string d[i].name, .slice A'' d[i].kids.length cap''] := e9
       subst e9
       replace h9 : a2.tmps[50]? = some _ := h9
       refine RInv.enter (f := 17) (args := #[.agg #[.int .u8 c[i].kind, .int .i64 c[i].num, .string c[i].name, .slice A' c[i].kids.length cap'], .agg #[.int .u8 d[i].kind, .int .i64 d[i].num, .string d[i].name, .slice A'' d[i].kids.length cap'']]) h hi rfl (wanted_none rfl) (fun _ => trivial) (by intro c; simp) rfl (by simp [h4, h9, go_sem]) ?_
       refine (callsIn_wide.2 (HT.out _ _ _ (HK.out.at_ (Nat.le_refl _) h.cw) (HK2.out.at_ (Nat.le_refl _) h.cw))).mono ?_
       rw [HP.out]
       rintro e V2 ⟨rfl, hq1⟩
       exact ⟨_, rfl, h.cw.trans (hq1.mono h.cw.size), Specs.mono hq1, rfl⟩
      refine AllFrom.cons (fun listed a2 V h hi hd => ?_) ?_
      ·obtain ⟨u10, h10, e10⟩ := hd ⟨10, .data⟩ (by simp) rfl
       replace e10 : u10 = .bool true := e10
       subst e10
       replace h10 : a2.tmps[51]? = some _ := h10
       exact RInv.pure (v := .bool false) h hi rfl (wanted_none rfl) (fun _ => trivial) (by intro c; simp) (by simp [execOp, h10, go_sem]) rfl
      exact trivial
     case fin =>
      rintro a2 V hV hs hdf hfx hph
      obtain ⟨u11, h11, e11⟩ := hph 11 (by omega)
      replace e11 : u11 = .bool false := e11
      subst e11
      replace h11 : a2.tmps[52]? = some _ := h11
      obtain ⟨tm, df⟩ := a2
      have hdf1 : df = [] := hdf
      subst hdf1
      have htm := tm_sets [41, 42, 43, 44, 45, 46, 47, 48, 49, 50, 51, 52] hs (fun t ht => hfx t (fun j hj e => ht (e ▸ (show ∀ j, j < 12 → (fun i => 41 + i) j ∈ [41, 42, 43, 44, 45, 46, 47, 48, 49, 50, 51, 52] by decide) j hj)))
      simp only [List.foldl_cons, List.foldl_nil, List.setIfInBounds_toArray, List.set_cons_succ, List.set_cons_zero] at htm
      rw [show tm.getD 52 undef = .bool false from by simp only [Array.getD_eq_getD_getElem?, h11, Option.getD_some]] at htm
      clear hs hdf hfx hph h11
      generalize tm.getD 41 undef = y41 at htm
      generalize tm.getD 42 undef = y42 at htm
      generalize tm.getD 43 undef = y43 at htm
      generalize tm.getD 44 undef = y44 at htm
      generalize tm.getD 45 undef = y45 at htm
      generalize tm.getD 46 undef = y46 at htm
      generalize tm.getD 47 undef = y47 at htm
      generalize tm.getD 48 undef = y48 at htm
      generalize tm.getD 49 undef = y49 at htm
      generalize tm.getD 50 undef = y50 at htm
      generalize tm.getD 51 undef = y51 at htm
      subst htm
      have HV := Lib.hid hV
      clear hV
      go_wp2_with fail
      go_roundw
      case rel =>
       refine ⟨i + 1, by omega, by go_num, fun j h h' hj => ?_, hbw.trans (HV.out.mono (by omega))⟩
       by_cases e : j = i
       ·subst e; exact HP.out
       ·exact hall.out j h h' (by omega)
      case measure => simp [intOf]; omega
   ·obtain rfl : i = c.length := by omega
    go_wp2_with fail
    go_ret
    exact ⟨by simp [eqB, show (k == k') = true by simpa using hk, show (n == n') = true by simpa using hn, hs, eqsB_of HL.out fun j h h' => hall.out j h h' h], hbb⟩

end Go.Proofs.Ytlpgapmbajblmaa
