/- count, Big, Size, Depth. -/
import Derived.Test.YtkngdmilgfgclaaKinds
import Derived.Test.YtkngdmilgfgclaaSize
namespace Go.Proofs.Ytkngdmilgfgclaa
open Go.RowKit Go.Shelf

mutual
def cnt : Tr → Nat → Int
  | .mk _ _ _ c, d => if d = 0 then -1 else cntL c (d - 1) 1
def cntL : List Tr → Nat → Int → Int
  | [], _, s => s
  | t :: r, d, s => if cnt t d < 0 ∨ 1000 < s then -1 else cntL r d (s + cnt t d)
end

mutual
theorem cnt_bd : ∀ (t : Tr) (d : Nat), -1 ≤ cnt t d ∧ cnt t d ≤ 1000 * d + 1
  | .mk _ _ _ c, d => by
    unfold cnt
    by_cases h : d = 0
    · rw [if_pos h]; omega
    · rw [if_neg h]
      have := cntL_bd c (d - 1) 1 (by omega) (by omega)
      omega
theorem cntL_bd : ∀ (c : List Tr) (d : Nat) (s : Int), 0 ≤ s → s ≤ 1000 * d + 1001 → -1 ≤ cntL c d s ∧ cntL c d s ≤ 1000 * d + 1001
  | [], d, s, h0, h1 => by unfold cntL; omega
  | t :: r, d, s, h0, h1 => by
    unfold cntL
    have ht := cnt_bd t d
    by_cases h : cnt t d < 0 ∨ 1000 < s
    · rw [if_pos h]; omega
    · rw [if_neg h]
      exact cntL_bd r d _ (by omega) (by omega)
end

mutual
theorem cnt_size : ∀ (t : Tr) (d : Nat), 0 ≤ cnt t d → cnt t d = t.size ∧ t.depth ≤ d
  | .mk _ _ _ c, d, h => by
    unfold cnt at h ⊢
    by_cases hd : d = 0
    · rw [if_pos hd] at h; omega
    · rw [if_neg hd] at h ⊢
      have := cntL_size c (d - 1) 1 h
      simp only [Tr.size, Tr.depth]
      omega
theorem cntL_size : ∀ (c : List Tr) (d : Nat) (s : Int), 0 ≤ cntL c d s → cntL c d s = s + Tr.sizes c ∧ Tr.depths c ≤ d
  | [], d, s, h => by simp [cntL, Tr.sizes, Tr.depths]
  | t :: r, d, s, h => by
    unfold cntL at h ⊢
    by_cases hc : cnt t d < 0 ∨ 1000 < s
    · rw [if_pos hc] at h; omega
    · rw [if_neg hc] at h ⊢
      have h1 := cntL_size r d _ h
      have h2 := cnt_size t d (by omega)
      simp only [Tr.sizes, Tr.depths]
      omega
end

def bigB (t : Tr) : Bool := decide (cnt t 100 < 0) || decide (400 < cnt t 100)
theorem bigB_no {t : Tr} (h : bigB t = false) : t.size ≤ 400 ∧ t.depth ≤ 100 := by
  simp only [bigB, Bool.or_eq_false_iff, decide_eq_false_iff_not] at h
  have := cnt_size t 100 (by omega)
  omega

set_option maxHeartbeats 800000 in
theorem count_any (t : Tr) : ∀ (d : Nat) (dI : Int) (v : Value) (w : World), dI = d → d ≤ 100 → Rep w w.heap.size t v →
    Calls Try.prog 45 #[v, .int .i64 dI] w fun e w' => e = .returned (.int .i64 (cnt t d)) ∧ Below w.heap.size w w' := by
  induction t using Tr.ind with
  | h k n s c ih =>
  intro d dI v w hdI hd hr
  simp only [Rep] at hr
  obtain ⟨A, cap, rfl, hf, hrow⟩ := hr
  have hl1 := hf.l1
  have hl2 := hf.c1
  have HROW := Lib.hid hrow
  have HI := Lib.hid ih
  clear hrow ih
  unfold nodeV
  by_cases h0 : d = 0
  · have hz : dI < 1 := by omega
    have HZ := Lib.hid (show cnt (.mk k n s c) d = -1 by simp [cnt, h0])
    clear hdI h0
    go_enter Try.func45, Try.ntmps45
    go_wp2_with fail
    go_ret
    exact ⟨by simp [HZ.out], (Below.refl _ _).alloc (Nat.le_refl _) _⟩
  · have hz : 1 ≤ dI := by omega
    have hz2 : dI ≤ 100 := by omega
    have HZ := Lib.hid (show cnt (.mk k n s c) d = cntL c (d - 1) 1 by simp [cnt, h0])
    have HD := Lib.hid (show dI - 1 = ((d - 1 : Nat) : Int) by omega)
    have hd1 : d - 1 ≤ 100 := by omega
    clear hdI h0
    go_enter Try.func45, Try.ntmps45
    go_wp2_with fail
    go_loopw [5, 6] (fun s5 i wr => ∃ (j : Nat) (a : Int), j ≤ c.length ∧ i = .int .i64 j ∧ s5 = .int .i64 a ∧ 0 ≤ a ∧ a ≤ 200000 ∧ Hid (cntL c (d - 1) 1 = cntL (c.drop j) (d - 1) a) ∧ Below (w.heap.size + 1) (w.alloc (.cells #[.int .u8 k, .int .i64 n, .string s, .slice A c.length cap] 24)) wr) (fun _ i _ => c.length - (intOf i).toNat)
    case atStart => exact ⟨0, 1, Nat.zero_le _, rfl, rfl, by omega, by omega, rfl, Below.refl _ _⟩
    case round =>
      obtain ⟨i, a, hi, rfl, rfl, ha0, ha1, hcnt, hbw⟩ := hrel
      have hbb : Below w.heap.size w wr := ((Below.refl _ _).alloc (Nat.le_refl _) _).trans (hbw.mono (by omega))
      obtain ⟨x0, x1, x2, x3⟩ := box_at (by simpa using hbw)
      by_cases hlt : i < c.length
      · obtain ⟨b, off, A', cap', rfl, hbB, h0, h1, h2, h3, hk⟩ := (HROW.out.below hbb).kid i hlt
        have hmem : c[i] ∈ c := List.getElem_mem hlt
        have hws := hbb.size
        have hbd := cnt_bd c[i] (d - 1)
        have hbd0 := hbd.1
        have hbd1 : cnt c[i] (d - 1) ≤ 100001 := by omega
        have HST := Lib.hid (show cntL (c.drop i) (d - 1) a = if cnt c[i] (d - 1) < 0 ∨ 1000 < a then -1 else cntL (c.drop (i + 1)) (d - 1) (a + cnt c[i] (d - 1)) by
          rw [List.drop_eq_getElem_cons hlt]; simp only [cntL])
        clear hbd
        go_wp2_with fail
        refine (HI.out _ hmem (d - 1) _ _ _ HD.out hd1 (hk.more hws)).mono ?_
        rintro e w1 ⟨rfl, hb1⟩
        have hb2 := hbw.trans (hb1.mono (by have := hbw.size; simp at this; omega))
        clear hb1
        by_cases hneg : cnt c[i] (d - 1) < 0
        · go_wp2_with fail
          go_ret
          exact ⟨by rw [HZ.out, hcnt.out, HST.out, if_pos (.inl hneg)]; rfl, ((Below.refl _ _).alloc (Nat.le_refl _) _).trans (hb2.mono (by omega))⟩
        · by_cases hbig : 1000 < a
          · have hneg' : 0 ≤ cnt c[i] (d - 1) := by omega
            go_wp2_with fail
            go_ret
            exact ⟨by rw [HZ.out, hcnt.out, HST.out, if_pos (.inr hbig)]; rfl, ((Below.refl _ _).alloc (Nat.le_refl _) _).trans (hb2.mono (by omega))⟩
          · have hneg' : 0 ≤ cnt c[i] (d - 1) := by omega
            have hbig' : a ≤ 1000 := by omega
            go_wp2_with fail
            go_roundw
            case rel => exact ⟨i + 1, _, by omega, by go_num, rfl, by omega, by omega, by rw [Hid, hcnt.out, HST.out, if_neg (by omega)], hb2⟩
            case measure => simp [intOf]; omega
      · obtain rfl : i = c.length := by omega
        go_wp2_with fail
        go_ret
        exact ⟨by rw [HZ.out, hcnt.out, List.drop_length]; rfl, hbb⟩

set_option maxHeartbeats 400000 in
theorem big_any (t : Tr) : Tests 14 bigB t := by
  cases t with
  | mk k n s c =>
  intro v w hr
  have hr' := hr
  simp only [Rep] at hr'
  obtain ⟨A, cap, rfl, hf, _⟩ := hr'
  have HC := Lib.hid (count_any _ 100 100 _ _ rfl (Nat.le_refl _) (hr.alloc (Nat.le_refl _) (.cells #[.int .u8 k, .int .i64 n, .string s, .slice A c.length cap] 24)))
  have HR := Lib.hid hr
  clear hr
  unfold nodeV at *
  by_cases h1 : cnt (.mk k n s c) 100 < 0
  · go_enter Try.func14, Try.ntmps14
    go_wp2_with fail
    refine HC.out.mono ?_
    rintro e w1 ⟨rfl, hb1⟩
    have hb2 := ((Below.refl _ w).alloc (Nat.le_refl _) _).trans (hb1.mono (by simp))
    clear hb1
    go_wp2_with fail
    go_ret
    exact ⟨by simp [bigB, h1], hb2⟩
  · have h1' : 0 ≤ cnt (.mk k n s c) 100 := by omega
    go_enter Try.func14, Try.ntmps14
    go_wp2_with fail
    refine HC.out.mono ?_
    rintro e w1 ⟨rfl, hb1⟩
    have hb2 := ((Below.refl _ w).alloc (Nat.le_refl _) _).trans (hb1.mono (by simp))
    obtain ⟨x0, x1, x2, x3⟩ := box_at hb1
    have HR1 := Lib.hid (HR.out.at_ (Nat.le_refl _) hb2)
    clear hb1
    go_wp2_with fail
    refine (count_any _ 100 _ _ _ rfl (Nat.le_refl _) HR1.out).mono ?_
    rintro e w2 ⟨rfl, hb3⟩
    have hb4 := hb2.trans (hb3.mono hb2.size)
    clear hb3
    go_wp2_with fail
    go_ret
    exact ⟨by simp [bigB], hb4⟩

set_option maxHeartbeats 400000 in
theorem rsize_any (t : Tr) : ∀ (v : Value) (w : World), Rep w w.heap.size t v → t.size ≤ 4611686018427387904 →
    Calls Try.prog 32 #[v] w fun e w' => e = .returned (.int .i64 t.size) ∧ Below w.heap.size w w' := by
  induction t using Tr.ind with
  | h k n s c ih =>
    intro v w hr hsz
    simp only [Rep] at hr
    obtain ⟨A, cap, rfl, hf, hrow⟩ := hr
    have hl := hf.l1
    have hc := hf.c1
    have HR := Lib.hid hrow
    have IH := Lib.hid ih
    clear hrow ih
    unfold nodeV
    simp only [Tr.size] at hsz
    go_enter Try.func32, Try.ntmps32
    go_wp2_with fail
    go_loopw [3, 4] (fun s3 s9 wr => ∃ i : Nat, i ≤ c.length ∧ s9 = .int .i64 i ∧ s3 = .int .i64 ((Tr.sizes (c.take i) + 1 : Nat) : Int) ∧ Below (w.heap.size + 1) (w.alloc (.cells #[.int .u8 k, .int .i64 n, .string s, .slice A c.length cap] 24)) wr)
      (fun _ s9 _ => c.length - (intOf s9).toNat)
    case atStart => exact ⟨0, Nat.zero_le _, rfl, by simp [Tr.sizes], Below.refl _ _⟩
    case round =>
      obtain ⟨i, hi, rfl, rfl, hb⟩ := hrel
      have hbb : Below w.heap.size w wr := ((Below.refl _ _).alloc (Nat.le_refl _) _).trans (hb.mono (by omega))
      obtain ⟨x0, x1, x2, x3⟩ := box_at (by simpa using hb)
      have hle := Tr.sizes_take_le c i
      by_cases hlt : i < c.length
      · obtain ⟨b, off, A', cap', rfl, hbB, h0, h1, h2, h3, hk⟩ := (HR.out.below hbb).kid i hlt
        have htk := Tr.sizes_take c i hlt
        have hmem : c[i] ∈ c := List.getElem_mem hlt
        have hsz1 := Tr.size_le_of_mem hmem
        have HTK := Lib.hid htk
        clear htk
        have hws := hbb.size
        go_wp2_with fail
        refine (IH.out _ hmem _ _ (hk.more hws) (by omega)).mono ?_
        rintro e w1 ⟨rfl, hb1⟩
        have hb2 := hb.trans (hb1.mono (by have := hb.size; simp at this; omega))
        clear hb1
        go_wp2_with fail
        go_roundw
        case rel => exact ⟨i + 1, by omega, by go_num, by rw [HTK.out]; go_num, hb2⟩
        case measure => simp [intOf]; omega
      · go_wp2_with fail
        go_ret
        obtain rfl : i = c.length := by omega
        exact ⟨by simp [Tr.size], hbb⟩

set_option maxHeartbeats 400000 in
theorem depth_any (t : Tr) : ∀ (v : Value) (w : World), Rep w w.heap.size t v → t.depth ≤ 4611686018427387904 →
    Calls Try.prog 33 #[v] w fun e w' => e = .returned (.int .i64 t.depth) ∧ Below w.heap.size w w' := by
  induction t using Tr.ind with
  | h k n s c ih =>
    intro v w hr hsz
    simp only [Rep] at hr
    obtain ⟨A, cap, rfl, hf, hrow⟩ := hr
    have hl := hf.l1
    have hc := hf.c1
    have HR := Lib.hid hrow
    have IH := Lib.hid ih
    clear hrow ih
    unfold nodeV
    simp only [Tr.depth] at hsz
    go_enter Try.func33, Try.ntmps33
    go_wp2_with fail
    go_loopw [3, 9] (fun s3 s9 wr => ∃ i : Nat, i ≤ c.length ∧ s9 = .int .i64 i ∧ s3 = .int .i64 ((Tr.depths (c.take i) : Nat) : Int) ∧ Below (w.heap.size + 1) (w.alloc (.cells #[.int .u8 k, .int .i64 n, .string s, .slice A c.length cap] 24)) wr)
      (fun _ s9 _ => c.length - (intOf s9).toNat)
    case atStart => exact ⟨0, Nat.zero_le _, rfl, by simp [Tr.depths], Below.refl _ _⟩
    case round =>
      obtain ⟨i, hi, rfl, rfl, hb⟩ := hrel
      have hbb : Below w.heap.size w wr := ((Below.refl _ _).alloc (Nat.le_refl _) _).trans (hb.mono (by omega))
      obtain ⟨x0, x1, x2, x3⟩ := box_at (by simpa using hb)
      have hle := Tr.depths_take_le c i
      by_cases hlt : i < c.length
      · obtain ⟨b, off, A', cap', rfl, hbB, h0, h1, h2, h3, hk⟩ := (HR.out.below hbb).kid i hlt
        have htk := Tr.depths_take c i hlt
        have hmem : c[i] ∈ c := List.getElem_mem hlt
        have hsz1 := Tr.depth_le_of_mem hmem
        have HTK := Lib.hid htk
        clear htk
        have hws := hbb.size
        go_wp2_with fail
        refine (IH.out _ hmem _ _ (hk.alloc hws _) (by omega)).mono ?_
        rintro e w1 ⟨rfl, hb1⟩
        have hb2 := (hb.alloc (by have := hb.size; simp at this; omega) _).trans (hb1.mono (by have := hb.size; simp at this ⊢; omega))
        clear hb1
        go_wp2_with fail
        go_roundw
        case rel => exact ⟨i + 1, by omega, by go_num, by rw [HTK.out]; first | go_num | (congr 1; omega) | (simp; omega), hb2⟩
        case measure => simp [intOf]; omega
      · go_wp2_with fail
        go_ret
        obtain rfl : i = c.length := by omega
        exact ⟨by simp [Tr.depth], hbb⟩

set_option maxHeartbeats 400000 in
theorem rdepth_any (t : Tr) : ∀ (v : Value) (w : World), Rep w w.heap.size t v → t.depth ≤ 4611686018427387904 →
    Calls Try.prog 34 #[v] w fun e w' => e = .returned (.int .i64 t.depth) ∧ Below w.heap.size w w' := by
  induction t using Tr.ind with
  | h k n s c ih =>
    intro v w hr hsz
    simp only [Rep] at hr
    obtain ⟨A, cap, rfl, hf, hrow⟩ := hr
    have hl := hf.l1
    have hc := hf.c1
    have HR := Lib.hid hrow
    have IH := Lib.hid ih
    clear hrow ih
    unfold nodeV
    simp only [Tr.depth] at hsz
    go_enter Try.func34, Try.ntmps34
    go_wp2_with fail
    go_loopw [3, 4] (fun s3 s9 wr => ∃ i : Nat, i ≤ c.length ∧ s9 = .int .i64 i ∧ s3 = .int .i64 ((Tr.depths (c.take i) : Nat) : Int) ∧ Below (w.heap.size + 1) (w.alloc (.cells #[.int .u8 k, .int .i64 n, .string s, .slice A c.length cap] 24)) wr)
      (fun _ s9 _ => c.length - (intOf s9).toNat)
    case atStart => exact ⟨0, Nat.zero_le _, rfl, by simp [Tr.depths], Below.refl _ _⟩
    case round =>
      obtain ⟨i, hi, rfl, rfl, hb⟩ := hrel
      have hbb : Below w.heap.size w wr := ((Below.refl _ _).alloc (Nat.le_refl _) _).trans (hb.mono (by omega))
      obtain ⟨x0, x1, x2, x3⟩ := box_at (by simpa using hb)
      have hle := Tr.depths_take_le c i
      by_cases hlt : i < c.length
      · obtain ⟨b, off, A', cap', rfl, hbB, h0, h1, h2, h3, hk⟩ := (HR.out.below hbb).kid i hlt
        have htk := Tr.depths_take c i hlt
        have hmem : c[i] ∈ c := List.getElem_mem hlt
        have hsz1 := Tr.depth_le_of_mem hmem
        have HTK := Lib.hid htk
        clear htk
        have hws := hbb.size
        go_wp2_with fail
        refine (IH.out _ hmem _ _ (hk.more hws) (by omega)).mono ?_
        rintro e w1 ⟨rfl, hb1⟩
        have hb2 := hb.trans (hb1.mono (by have := hb.size; simp at this; omega))
        clear hb1
        go_wp2_with fail
        go_roundw
        case rel => exact ⟨i + 1, by omega, by go_num, by rw [HTK.out]; first | go_num | (congr 1; omega) | (simp; omega), hb2⟩
        case measure => simp [intOf]; omega
      · go_wp2_with fail
        go_ret
        obtain rfl : i = c.length := by omega
        exact ⟨by simp [Tr.depth], hbb⟩

end Go.Proofs.Ytkngdmilgfgclaa
