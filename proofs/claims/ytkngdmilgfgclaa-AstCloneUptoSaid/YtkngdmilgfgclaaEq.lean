/- The equality of trees: ast.Equal, slices.EqualFunc over nodes, the reference's Equal. -/
import Derived.Test.YtkngdmilgfgclaaRegion
import Derived.Test.YtkngdmilgfgclaaPred
namespace Go.Proofs.Ytkngdmilgfgclaa
open Go.RowKit Go.Shelf

mutual
def eqB : Tr → Tr → Bool
  | .mk k n s c, .mk k' n' s' c' => (k == k') && (n == n') && (s.toList == s'.toList) && eqsB c c'
def eqsB : List Tr → List Tr → Bool
  | [], [] => true
  | a :: q, b :: r => eqB a b && eqsB q r
  | [], _ :: _ => false
  | _ :: _, [] => false
end

theorem eqsB_len : ∀ {c d : List Tr}, c.length ≠ d.length → eqsB c d = false
  | [], [], h => absurd rfl h
  | [], _ :: _, _ => by simp only [eqsB]
  | _ :: _, [], _ => by simp only [eqsB]
  | a :: q, b :: r, h => by
    simp only [eqsB]
    rw [eqsB_len (by simpa using h)]
    simp
theorem eqsB_of : ∀ {c d : List Tr}, c.length = d.length → (∀ (j : Nat) (h : j < c.length) (h' : j < d.length), eqB c[j] d[j] = true) → eqsB c d = true
  | [], [], _, _ => by simp only [eqsB]
  | [], _ :: _, h, _ => by simp at h
  | _ :: _, [], h, _ => by simp at h
  | a :: q, b :: r, h, hall => by
    simp only [eqsB, Bool.and_eq_true]
    exact ⟨hall 0 (by simp) (by simp), eqsB_of (by simpa using h) fun j hj hj' => hall (j + 1) (by simpa using hj) (by simpa using hj')⟩
theorem eqsB_not : ∀ {c d : List Tr} (j : Nat) (h : j < c.length) (h' : j < d.length), eqB c[j] d[j] = false → eqsB c d = false
  | [], _, _, h, _, _ => absurd h (Nat.not_lt_zero _)
  | _ :: _, [], _, _, h, _ => absurd h (Nat.not_lt_zero _)
  | a :: q, b :: r, 0, _, _, e => by
    simp only [eqsB]
    have : eqB a b = false := by simpa using e
    rw [this]
    rfl
  | a :: q, b :: r, j + 1, h, h', e => by
    simp only [eqsB]
    rw [eqsB_not j (by simpa using h) (by simpa using h') (by simpa using e)]
    simp

theorem bytes_loop (q : ByteArray) : ∀ (m i : Nat) (r : List UInt8), q.size - i = m → ByteArray.toList.loop q i r = r.reverse ++ q.data.toList.drop i := by
  have hz : q.data.toList.length = q.size := by simp
  intro m
  induction m with
  | zero =>
    intro i r h
    rw [ByteArray.toList.loop.eq_1, if_neg (by omega), List.drop_eq_nil_of_le (by omega), List.append_nil]
  | succ m ih =>
    intro i r h
    have hi : i < q.data.toList.length := by omega
    rw [ByteArray.toList.loop.eq_1, if_pos (by omega), ih (i + 1) _ (by omega), List.reverse_cons, List.append_assoc, List.drop_eq_getElem_cons hi]
    congr 1
    show q.data[i]! :: _ = _
    rw [getElem!_pos q.data i (by simpa using hi)]
    rfl
theorem bytes_toList {s t : ByteArray} : s.toList = t.toList ↔ s = t := by
  constructor
  · intro h
    have hd : ∀ q : ByteArray, q.toList = q.data.toList := fun q => by
      rw [ByteArray.toList.eq_1, bytes_loop q _ 0 [] rfl]
      rfl
    rw [hd, hd] at h
    exact ByteArray.ext (Array.toList_inj.1 h)
  · intro h; rw [h]
mutual
theorem eqB_iff : ∀ (a b : Tr), eqB a b = true ↔ a = b
  | .mk k n s c, .mk k' n' s' c' => by
    have h := eqsB_iff c c'
    simp only [eqB, Bool.and_eq_true, beq_iff_eq, bytes_toList, h, Tr.mk.injEq, and_assoc]
theorem eqsB_iff : ∀ (c d : List Tr), eqsB c d = true ↔ c = d
  | [], [] => by simp only [eqsB]
  | [], _ :: _ => by simp [eqsB]
  | _ :: _, [] => by simp [eqsB]
  | a :: q, b :: r => by
    have h1 := eqB_iff a b
    have h2 := eqsB_iff q r
    simp only [eqsB, Bool.and_eq_true, h1, h2, List.cons.injEq]
end
theorem eqB_refl (a : Tr) : eqB a a = true := (eqB_iff a a).2 rfl
theorem eqB_comm (a b : Tr) : eqB a b = eqB b a := by
  cases h : eqB b a
  · cases h' : eqB a b
    · rfl
    · rw [eqB_iff] at h'; subst h'; rw [eqB_refl] at h; cases h
  · rw [eqB_iff] at h; subst h; exact eqB_refl _

/-- the contract of a test of two nodes -/
def Tests2 (f : Nat) (p : Tr → Tr → Bool) (a b : Tr) : Prop := ∀ (v u : Value) (w : World), Rep w w.heap.size a v → Rep w w.heap.size b u → Calls Try.prog f #[v, u] w fun e w' => e = .returned (.bool (p a b)) ∧ Below w.heap.size w w'

set_option maxHeartbeats 1000000 in
theorem equalFunc_any (c d : List Tr) (hf : ∀ a, a ∈ c → ∀ b, Tests2 28 eqB a b) (A A2 : Option Addr) (cap cap2 : Nat) (w : World) (hl : c.length ≤ 9223372036854775807) (hl2 : d.length ≤ 9223372036854775807)
    (hrow : RepRow w w.heap.size c A 0) (hrow2 : RepRow w w.heap.size d A2 0) :
    Calls Try.prog 56 #[.slice A c.length cap, .slice A2 d.length cap2, .func (.func 28) #[] #[]] w fun e w' => e = .returned (.bool (eqsB c d)) ∧ Below w.heap.size w w' := by
  have eg : ∀ (args : Array Value) (w : World), (callFunc 28 args).run Try.prog w = .ok (.enter 28 args) w := fun _ _ => by kernel_rfl
  have HF := Lib.hid hf
  have HR := Lib.hid hrow
  have HR2 := Lib.hid hrow2
  clear hf hrow hrow2
  by_cases hlen : c.length = d.length
  · have hne : ((c.length : Int) != (d.length : Int)) = false := by simp [hlen]
    have HL := Lib.hid hlen
    have hle1 : c.length ≤ d.length := by omega
    clear hlen
    go_enter Try.func56, Try.ntmps56
    go_wp2_with fail
    go_loopw [17] (fun i wr => ∃ k : Nat, k ≤ c.length ∧ i = .int .i64 k ∧ Hid (∀ (j : Nat) (h : j < c.length) (h' : j < d.length), j < k → eqB c[j] d[j] = true) ∧ Below w.heap.size w wr) (fun i _ => c.length - (intOf i).toNat)
    case atStart => exact ⟨0, Nat.zero_le _, rfl, fun j _ _ h => absurd h (Nat.not_lt_zero _), Below.refl _ _⟩
    case round =>
      obtain ⟨i, hi, rfl, hall, hb⟩ := hrel
      by_cases hlt : i < c.length
      · have hlt2 : i < d.length := by omega
        obtain ⟨b, off, A', cap', rfl, hbB, h0, h1, h2, h3, hk⟩ := (HR.out.below hb).kid i hlt
        obtain ⟨b', off', A'', cap'', rfl, hbB', g0, g1, g2, g3, hk'⟩ := (HR2.out.below hb).kid i hlt2
        have hws := hb.size
        have HA : Below wr.heap.size wr (wr.alloc (.cells #[.int .u8 c[i].kind, .int .i64 c[i].num, .string c[i].name, .slice A' c[i].kids.length cap'] 24)) := (Below.refl _ _).alloc (Nat.le_refl _) _
        have q0 := (HA.cell (p := ⟨b', off' + i * 4, none⟩) (show b' < wr.heap.size by omega)).trans g0
        have q1 := (HA.cell (p := ⟨b', off' + i * 4 + 1, none⟩) (show b' < wr.heap.size by omega)).trans g1
        have q2 := (HA.cell (p := ⟨b', off' + i * 4 + 2, none⟩) (show b' < wr.heap.size by omega)).trans g2
        have q3 := (HA.cell (p := ⟨b', off' + i * 4 + 3, none⟩) (show b' < wr.heap.size by omega)).trans g3
        have HT := Lib.hid (HF.out c[i] (List.getElem_mem hlt) d[i])
        have HK := Lib.hid hk
        have HK' := Lib.hid hk'
        clear hk hk' HA g0 g1 g2 g3
        cases hp : eqB c[i] d[i]
        · have HP := Lib.hid hp
          clear hp
          go_wp2_with fail
          refine (HT.out _ _ _ (((HK.out.alloc hws _).alloc (Nat.le_refl _) _)) (((HK'.out.alloc hws _).alloc (Nat.le_refl _) _))).mono ?_
          rw [HP.out]
          rintro e w1 ⟨rfl, hb1⟩
          have hb2 := ((hb.alloc hws _).alloc (by simp; omega) _).trans (hb1.mono (by simp; omega))
          clear hb1
          go_wp2_with fail
          go_ret
          exact ⟨by simp [eqsB_not i hlt hlt2 HP.out], hb2⟩
        · have HP := Lib.hid hp
          clear hp
          go_wp2_with fail
          refine (HT.out _ _ _ (((HK.out.alloc hws _).alloc (Nat.le_refl _) _)) (((HK'.out.alloc hws _).alloc (Nat.le_refl _) _))).mono ?_
          rw [HP.out]
          rintro e w1 ⟨rfl, hb1⟩
          have hb2 := ((hb.alloc hws _).alloc (by simp; omega) _).trans (hb1.mono (by simp; omega))
          clear hb1
          go_wp2_with fail
          go_roundw
          case rel =>
            refine ⟨i + 1, by omega, by go_num, fun j h h' hj => ?_, hb2⟩
            by_cases e : j = i
            · subst e; exact HP.out
            · exact hall.out j h h' (by omega)
          case measure => simp [intOf]; omega
      · obtain rfl : i = c.length := by omega
        go_wp2_with fail
        go_ret
        exact ⟨by simp [eqsB_of HL.out fun j h h' => hall.out j h h' h], hb⟩
  · have hne : ((c.length : Int) != (d.length : Int)) = true := by simp; omega
    have HL := Lib.hid hlen
    clear hlen
    go_enter Try.func56, Try.ntmps56
    go_wp2_with fail
    go_ret
    exact ⟨by simp [eqsB_len HL.out], Below.refl _ _⟩

set_option maxHeartbeats 1000000 in
theorem equal_any (a : Tr) : ∀ b, Tests2 28 eqB a b := by
  induction a using Tr.ind with
  | h k n s c ih =>
  intro b
  cases b with
  | mk k' n' s' d =>
  intro v u w hr hr2
  simp only [Rep] at hr hr2
  obtain ⟨A, cap, rfl, hf, hrow⟩ := hr
  obtain ⟨A2, cap2, rfl, hf2, hrow2⟩ := hr2
  unfold nodeV
  have HR := Lib.hid hrow
  have HR2 := Lib.hid hrow2
  have HI := Lib.hid ih
  have HF := Lib.hid hf
  have HF2 := Lib.hid hf2
  clear hrow hrow2 ih hf hf2
  cases hk : (k == k')
  · go_enter Try.func28, Try.ntmps28
    go_wp2_with fail
    go_ret
    exact ⟨by simp [eqB, hk], ((Below.refl _ _).alloc (Nat.le_refl _) _).alloc (by simp) _⟩
  · cases hn : (n == n')
    · go_enter Try.func28, Try.ntmps28
      go_wp2_with fail
      go_ret
      exact ⟨by simp [eqB, hn], ((Below.refl _ _).alloc (Nat.le_refl _) _).alloc (by simp) _⟩
    · cases hs : (s.toList == s'.toList)
      · go_enter Try.func28, Try.ntmps28
        go_wp2_with fail
        go_ret
        exact ⟨by simp [eqB, hs], ((Below.refl _ _).alloc (Nat.le_refl _) _).alloc (by simp) _⟩
      · have HK := Lib.hid hk
        have HN := Lib.hid hn
        have HS := Lib.hid hs
        go_enter Try.func28, Try.ntmps28
        go_wp2_with fail
        have hA := ((Below.refl w.heap.size w).alloc (Nat.le_refl _) (.cells #[.int .u8 k, .int .i64 n, .string s, .slice A c.length cap] 24)).alloc (by simp) (.cells #[.int .u8 k', .int .i64 n', .string s', .slice A2 d.length cap2] 24)
        have l1 := HF.out.l1
        have l2 := HF.out.c1
        have l3 := HF2.out.l1
        have l4 := HF2.out.c1
        refine (equalFunc_any c d (fun a ha b => HI.out a ha b) A A2 cap cap2 _ (by omega) (by omega) ((HR.out.below hA).more hA.size) ((HR2.out.below hA).more hA.size)).mono ?_
        rintro e w1 ⟨rfl, hb1⟩
        have hb2 := hA.trans (hb1.mono hA.size)
        clear hb1 hA
        go_wp2_with fail
        go_ret
        exact ⟨by simp [eqB, HK.out, HN.out, HS.out], hb2⟩

end Go.Proofs.Ytkngdmilgfgclaa
