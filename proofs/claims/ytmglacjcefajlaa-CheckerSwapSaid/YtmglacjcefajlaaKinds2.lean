/- Valid statements and blocks: the walks of package ast; and all of them together. -/
import Derived.Test.YtmglacjcefajlaaKinds
namespace Go.Proofs.Ytmglacjcefajlaa
open Go.RowKit Go.Shelf

theorem isExpr_other (k : Int) (n : Int) (s : ByteArray) (c : List Tr) (A : Option Addr) (cap : Nat) (w : World) (e1 : (k == 1) = false) (e2 : (k == 2) = false) (e3 : (k == 3) = false) (e4 : (k == 4) = false) (e5 : (k == 5) = false) (e6 : (k == 6) = false) (e7 : (k == 7) = false) (hk : 23 < k ∨ k < 8)
  (_hr : Rep w w.heap.size (.mk k n s c) (nodeV k n s A c.length cap)) :
  Calls Try.prog 45 #[nodeV k n s A c.length cap] w fun e w' => e = .returned (.bool (false)) ∧ Below w.heap.size w w' := by
 unfold nodeV
 clear _hr
 rcases hk with hk | hk
 ·go_enter Try.func45, Try.ntmps45
  go_wp2_with fail
  go_ret
  exact ⟨rfl, (Below.refl _ _).alloc (Nat.le_refl _) _⟩
 ·go_enter Try.func45, Try.ntmps45
  go_wp2_with fail
  go_ret
  exact ⟨rfl, (Below.refl _ _).alloc (Nat.le_refl _) _⟩

theorem isExpr_any (t : Tr) : Tests 45 exprB t := by
 induction t using Tr.ind with
 | h k n s c ih =>
 intro v w hr
 have hr' := hr
 simp only [Rep] at hr'
 obtain ⟨A, cap, rfl, hf, _⟩ := hr'
 by_cases h1 : k = 1
 ·subst h1; simpa [exprB] using isExpr_1 n s c A cap w hr
 by_cases h2 : k = 2
 ·subst h2; simpa [exprB] using isExpr_2 n s c A cap w hr
 by_cases h3 : k = 3
 ·subst h3; simpa [exprB, zipB_one, exprsB_all, Bool.and_assoc] using isExpr_3 n s c A cap w ih hr
 by_cases h4 : k = 4
 ·subst h4; simpa [exprB] using isExpr_4 n s c A cap w hr
 by_cases h5 : k = 5
 ·subst h5; simpa [exprB] using isExpr_5 n s c A cap w hr
 by_cases h6 : k = 6
 ·subst h6; simpa [exprB, zipB_one, exprsB_all, Bool.and_assoc] using isExpr_6 n s c A cap w ih hr
 by_cases h7 : k = 7
 ·subst h7; simpa [exprB, zipB_one, exprsB_all, Bool.and_assoc] using isExpr_7 n s c A cap w ih hr
 by_cases h8 : 8 ≤ k ∧ k ≤ 23
 ·simpa [exprB, h1, h2, h3, h4, h5, h6, h7, h8, zipB_two, exprsB_all, Bool.and_assoc] using isExpr_8 k n s c A cap w h8.1 h8.2 (by simp [h1]) (by simp [h2]) (by simp [h3]) (by simp [h4]) (by simp [h5]) (by simp [h6]) (by simp [h7]) ih hr
 ·simpa [exprB, h1, h2, h3, h4, h5, h6, h7, h8] using isExpr_other k n s c A cap w (by simp [h1]) (by simp [h2]) (by simp [h3]) (by simp [h4]) (by simp [h5]) (by simp [h6]) (by simp [h7]) (by omega) hr

set_option maxHeartbeats 400000 in
theorem isPlace_any (t : Tr) : Tests 44 placeB t := by
 cases t with
 | mk k n s c =>
 intro v w hr
 have hr' := hr
 simp only [Rep] at hr'
 obtain ⟨A, cap, rfl, hf, _⟩ := hr'
 by_cases h2 : k = 2
 ·subst h2
  have HR := Lib.hid (isExpr_any _ _ _ (hr.alloc (Nat.le_refl _) (.cells #[.int .u8 2, .int .i64 n, .string s, .slice A c.length cap] 26)))
  clear hr
  unfold nodeV at *
  go_enter Try.func44, Try.ntmps44
  go_wp2_with fail
  refine HR.out.mono ?_
  rintro e w1 ⟨rfl, hb1⟩
  have hb2 := ((Below.refl _ w).alloc (Nat.le_refl _) _).trans (hb1.mono (by simp))
  clear hb1
  go_wp2_with fail
  go_ret
  exact ⟨by simp [placeB, Tr.kind], hb2⟩
 by_cases h3 : k = 3
 ·subst h3
  have HR := Lib.hid (isExpr_any _ _ _ (hr.alloc (Nat.le_refl _) (.cells #[.int .u8 3, .int .i64 n, .string s, .slice A c.length cap] 26)))
  clear hr
  unfold nodeV at *
  go_enter Try.func44, Try.ntmps44
  go_wp2_with fail
  refine HR.out.mono ?_
  rintro e w1 ⟨rfl, hb1⟩
  have hb2 := ((Below.refl _ w).alloc (Nat.le_refl _) _).trans (hb1.mono (by simp))
  clear hb1
  go_wp2_with fail
  go_ret
  exact ⟨by simp [placeB, Tr.kind], hb2⟩
 have e2 : (k == 2) = false := by simp [h2]
 have e3 : (k == 3) = false := by simp [h3]
 clear hr
 unfold nodeV
 go_enter Try.func44, Try.ntmps44
 go_wp2_with fail
 go_ret
 exact ⟨by simp [placeB, Tr.kind, h2, h3], (Below.refl _ _).alloc (Nat.le_refl _) _⟩

set_option maxHeartbeats 400000 in
theorem isVar_any (t : Tr) : Tests 48 varB t := by
 cases t with
 | mk k n s c =>
 intro v w hr
 have hr' := hr
 simp only [Rep] at hr'
 obtain ⟨A, cap, rfl, hf, _⟩ := hr'
 by_cases h2 : k = 2
 ·subst h2
  have HR := Lib.hid (isExpr_any _ _ _ (hr.alloc (Nat.le_refl _) (.cells #[.int .u8 2, .int .i64 n, .string s, .slice A c.length cap] 26)))
  clear hr
  unfold nodeV at *
  go_enter Try.func48, Try.ntmps48
  go_wp2_with fail
  refine HR.out.mono ?_
  rintro e w1 ⟨rfl, hb1⟩
  have hb2 := ((Below.refl _ w).alloc (Nat.le_refl _) _).trans (hb1.mono (by simp))
  clear hb1
  go_wp2_with fail
  go_ret
  exact ⟨by simp [varB, Tr.kind], hb2⟩
 have e2 : (k == 2) = false := by simp [h2]
 clear hr
 unfold nodeV
 go_enter Try.func48, Try.ntmps48
 go_wp2_with fail
 go_ret
 exact ⟨by simp [varB, Tr.kind, h2], (Below.refl _ _).alloc (Nat.le_refl _) _⟩

set_option maxHeartbeats 400000 in
theorem isStmt_40 (n : Int) (s : ByteArray) (c : List Tr) (A : Option Addr) (cap : Nat) (w : World)
  (ih0 : ∀ t, t ∈ c → Tests 44 placeB t) (ih1 : ∀ t, t ∈ c → Tests 45 exprB t)
  (hr : Rep w w.heap.size (.mk 40 n s c) (nodeV 40 n s A c.length cap)) :
  Calls Try.prog 24 #[nodeV 40 n s A c.length cap] w fun e w' => e = .returned (.bool (plainB n s && zipB [(44, placeB), (45, exprB)] c)) ∧ Below w.heap.size w w' := by
 have hN := plain_any _ _ _ (hr.alloc (Nat.le_refl _) (.cells #[.int .u8 40, .int .i64 n, .string s, .slice A c.length cap] 26))
 unfold nodeV at hN ⊢
 simp only [Tr.num, Tr.name] at hN
 have HN := Lib.hid hN
 have HR := Lib.hid hr
 clear hN hr
 cases hn : plainB n s
 ·have H := Lib.hid hn
  clear hn
  go_enter Try.func24, Try.ntmps24
  go_wp2_with fail
  refine HN.out.mono ?_
  rw [H.out]
  rintro e w1 ⟨rfl, hb1⟩
  have hb2 := ((Below.refl _ w).alloc (Nat.le_refl _) _).trans (hb1.mono (by simp))
  clear hb1
  go_wp2_with fail
  go_ret
  exact ⟨by simp, hb2⟩
 ·have H := Lib.hid hn
  clear hn
  have hfs : ∀ p, p ∈ [(44, placeB), (45, exprB)] → ∀ u, u ∈ c → Tests p.1 p.2 u := by
   intro p hp
   simp only [List.mem_cons, List.not_mem_nil, or_false] at hp
   rcases hp with rfl | rfl
   ·exact ih0
   ·exact ih1
  have heg : ∀ p, p ∈ [(44, placeB), (45, exprB)] → Enters Try.prog p.1 := by
   intro p hp
   simp only [List.mem_cons, List.not_mem_nil, or_false] at hp
   rcases hp with rfl | rfl
   ·exact en_place
   ·exact en_expr
  have HFS := Lib.hid hfs
  have HEG := Lib.hid heg
  clear hfs heg
  go_enter Try.func24, Try.ntmps24
  go_wp2_with fail
  refine HN.out.mono ?_
  rw [H.out]
  rintro e w1 ⟨rfl, hb1⟩
  have hb2 := ((Below.refl _ w).alloc (Nat.le_refl _) _).trans (hb1.mono (by simp))
  have hr1 := HR.out.at_ (Nat.le_refl _) hb2
  have HR1 := Lib.hid hr1
  obtain ⟨x0, x1, x2, x3⟩ := box_at hb1
  clear hb1 hr1
  go_wp2_with fail
  refine (kids_at [(44, placeB), (45, exprB)] 2 rfl (by omega) (.mk 40 n s c) HFS.out HEG.out _ w1 HR1.out _ _ rfl _).mono ?_
  rintro e w2 ⟨rfl, hb3⟩
  have hb4 := hb2.trans (hb3.mono hb2.size)
  clear hb3
  go_wp2_with fail
  go_ret
  exact ⟨by simp [Tr.kids], hb4⟩

set_option maxHeartbeats 400000 in
theorem isStmt_41 (n : Int) (s : ByteArray) (c : List Tr) (A : Option Addr) (cap : Nat) (w : World)
  (ih0 : ∀ t, t ∈ c → Tests 44 placeB t) (ih1 : ∀ t, t ∈ c → Tests 45 exprB t)
  (hr : Rep w w.heap.size (.mk 41 n s c) (nodeV 41 n s A c.length cap)) :
  Calls Try.prog 24 #[nodeV 41 n s A c.length cap] w fun e w' => e = .returned (.bool (plainB n s && zipB [(44, placeB), (45, exprB)] c)) ∧ Below w.heap.size w w' := by
 have hN := plain_any _ _ _ (hr.alloc (Nat.le_refl _) (.cells #[.int .u8 41, .int .i64 n, .string s, .slice A c.length cap] 26))
 unfold nodeV at hN ⊢
 simp only [Tr.num, Tr.name] at hN
 have HN := Lib.hid hN
 have HR := Lib.hid hr
 clear hN hr
 cases hn : plainB n s
 ·have H := Lib.hid hn
  clear hn
  go_enter Try.func24, Try.ntmps24
  go_wp2_with fail
  refine HN.out.mono ?_
  rw [H.out]
  rintro e w1 ⟨rfl, hb1⟩
  have hb2 := ((Below.refl _ w).alloc (Nat.le_refl _) _).trans (hb1.mono (by simp))
  clear hb1
  go_wp2_with fail
  go_ret
  exact ⟨by simp, hb2⟩
 ·have H := Lib.hid hn
  clear hn
  have hfs : ∀ p, p ∈ [(44, placeB), (45, exprB)] → ∀ u, u ∈ c → Tests p.1 p.2 u := by
   intro p hp
   simp only [List.mem_cons, List.not_mem_nil, or_false] at hp
   rcases hp with rfl | rfl
   ·exact ih0
   ·exact ih1
  have heg : ∀ p, p ∈ [(44, placeB), (45, exprB)] → Enters Try.prog p.1 := by
   intro p hp
   simp only [List.mem_cons, List.not_mem_nil, or_false] at hp
   rcases hp with rfl | rfl
   ·exact en_place
   ·exact en_expr
  have HFS := Lib.hid hfs
  have HEG := Lib.hid heg
  clear hfs heg
  go_enter Try.func24, Try.ntmps24
  go_wp2_with fail
  refine HN.out.mono ?_
  rw [H.out]
  rintro e w1 ⟨rfl, hb1⟩
  have hb2 := ((Below.refl _ w).alloc (Nat.le_refl _) _).trans (hb1.mono (by simp))
  have hr1 := HR.out.at_ (Nat.le_refl _) hb2
  have HR1 := Lib.hid hr1
  obtain ⟨x0, x1, x2, x3⟩ := box_at hb1
  clear hb1 hr1
  go_wp2_with fail
  refine (kids_at [(44, placeB), (45, exprB)] 2 rfl (by omega) (.mk 41 n s c) HFS.out HEG.out _ w1 HR1.out _ _ rfl _).mono ?_
  rintro e w2 ⟨rfl, hb3⟩
  have hb4 := hb2.trans (hb3.mono hb2.size)
  clear hb3
  go_wp2_with fail
  go_ret
  exact ⟨by simp [Tr.kids], hb4⟩

set_option maxHeartbeats 400000 in
theorem isStmt_42 (n : Int) (s : ByteArray) (c : List Tr) (A : Option Addr) (cap : Nat) (w : World)
  (ih0 : ∀ t, t ∈ c → Tests 44 placeB t) (ih1 : ∀ t, t ∈ c → Tests 45 exprB t)
  (hr : Rep w w.heap.size (.mk 42 n s c) (nodeV 42 n s A c.length cap)) :
  Calls Try.prog 24 #[nodeV 42 n s A c.length cap] w fun e w' => e = .returned (.bool (plainB n s && zipB [(44, placeB), (45, exprB)] c)) ∧ Below w.heap.size w w' := by
 have hN := plain_any _ _ _ (hr.alloc (Nat.le_refl _) (.cells #[.int .u8 42, .int .i64 n, .string s, .slice A c.length cap] 26))
 unfold nodeV at hN ⊢
 simp only [Tr.num, Tr.name] at hN
 have HN := Lib.hid hN
 have HR := Lib.hid hr
 clear hN hr
 cases hn : plainB n s
 ·have H := Lib.hid hn
  clear hn
  go_enter Try.func24, Try.ntmps24
  go_wp2_with fail
  refine HN.out.mono ?_
  rw [H.out]
  rintro e w1 ⟨rfl, hb1⟩
  have hb2 := ((Below.refl _ w).alloc (Nat.le_refl _) _).trans (hb1.mono (by simp))
  clear hb1
  go_wp2_with fail
  go_ret
  exact ⟨by simp, hb2⟩
 ·have H := Lib.hid hn
  clear hn
  have hfs : ∀ p, p ∈ [(44, placeB), (45, exprB)] → ∀ u, u ∈ c → Tests p.1 p.2 u := by
   intro p hp
   simp only [List.mem_cons, List.not_mem_nil, or_false] at hp
   rcases hp with rfl | rfl
   ·exact ih0
   ·exact ih1
  have heg : ∀ p, p ∈ [(44, placeB), (45, exprB)] → Enters Try.prog p.1 := by
   intro p hp
   simp only [List.mem_cons, List.not_mem_nil, or_false] at hp
   rcases hp with rfl | rfl
   ·exact en_place
   ·exact en_expr
  have HFS := Lib.hid hfs
  have HEG := Lib.hid heg
  clear hfs heg
  go_enter Try.func24, Try.ntmps24
  go_wp2_with fail
  refine HN.out.mono ?_
  rw [H.out]
  rintro e w1 ⟨rfl, hb1⟩
  have hb2 := ((Below.refl _ w).alloc (Nat.le_refl _) _).trans (hb1.mono (by simp))
  have hr1 := HR.out.at_ (Nat.le_refl _) hb2
  have HR1 := Lib.hid hr1
  obtain ⟨x0, x1, x2, x3⟩ := box_at hb1
  clear hb1 hr1
  go_wp2_with fail
  refine (kids_at [(44, placeB), (45, exprB)] 2 rfl (by omega) (.mk 42 n s c) HFS.out HEG.out _ w1 HR1.out _ _ rfl _).mono ?_
  rintro e w2 ⟨rfl, hb3⟩
  have hb4 := hb2.trans (hb3.mono hb2.size)
  clear hb3
  go_wp2_with fail
  go_ret
  exact ⟨by simp [Tr.kids], hb4⟩

set_option maxHeartbeats 400000 in
theorem isStmt_56 (n : Int) (s : ByteArray) (c : List Tr) (A : Option Addr) (cap : Nat) (w : World)
  (ih0 : ∀ t, t ∈ c → Tests 44 placeB t) (ih1 : ∀ t, t ∈ c → Tests 45 exprB t)
  (hr : Rep w w.heap.size (.mk 56 n s c) (nodeV 56 n s A c.length cap)) :
  Calls Try.prog 24 #[nodeV 56 n s A c.length cap] w fun e w' => e = .returned (.bool (plainB n s && zipB [(44, placeB), (45, exprB)] c)) ∧ Below w.heap.size w w' := by
 have hN := plain_any _ _ _ (hr.alloc (Nat.le_refl _) (.cells #[.int .u8 56, .int .i64 n, .string s, .slice A c.length cap] 26))
 unfold nodeV at hN ⊢
 simp only [Tr.num, Tr.name] at hN
 have HN := Lib.hid hN
 have HR := Lib.hid hr
 clear hN hr
 cases hn : plainB n s
 ·have H := Lib.hid hn
  clear hn
  go_enter Try.func24, Try.ntmps24
  go_wp2_with fail
  refine HN.out.mono ?_
  rw [H.out]
  rintro e w1 ⟨rfl, hb1⟩
  have hb2 := ((Below.refl _ w).alloc (Nat.le_refl _) _).trans (hb1.mono (by simp))
  clear hb1
  go_wp2_with fail
  go_ret
  exact ⟨by simp, hb2⟩
 ·have H := Lib.hid hn
  clear hn
  have hfs : ∀ p, p ∈ [(44, placeB), (45, exprB)] → ∀ u, u ∈ c → Tests p.1 p.2 u := by
   intro p hp
   simp only [List.mem_cons, List.not_mem_nil, or_false] at hp
   rcases hp with rfl | rfl
   ·exact ih0
   ·exact ih1
  have heg : ∀ p, p ∈ [(44, placeB), (45, exprB)] → Enters Try.prog p.1 := by
   intro p hp
   simp only [List.mem_cons, List.not_mem_nil, or_false] at hp
   rcases hp with rfl | rfl
   ·exact en_place
   ·exact en_expr
  have HFS := Lib.hid hfs
  have HEG := Lib.hid heg
  clear hfs heg
  go_enter Try.func24, Try.ntmps24
  go_wp2_with fail
  refine HN.out.mono ?_
  rw [H.out]
  rintro e w1 ⟨rfl, hb1⟩
  have hb2 := ((Below.refl _ w).alloc (Nat.le_refl _) _).trans (hb1.mono (by simp))
  have hr1 := HR.out.at_ (Nat.le_refl _) hb2
  have HR1 := Lib.hid hr1
  obtain ⟨x0, x1, x2, x3⟩ := box_at hb1
  clear hb1 hr1
  go_wp2_with fail
  refine (kids_at [(44, placeB), (45, exprB)] 2 rfl (by omega) (.mk 56 n s c) HFS.out HEG.out _ w1 HR1.out _ _ rfl _).mono ?_
  rintro e w2 ⟨rfl, hb3⟩
  have hb4 := hb2.trans (hb3.mono hb2.size)
  clear hb3
  go_wp2_with fail
  go_ret
  exact ⟨by simp [Tr.kids], hb4⟩

set_option maxHeartbeats 400000 in
theorem isStmt_43 (n : Int) (s : ByteArray) (c : List Tr) (A : Option Addr) (cap : Nat) (w : World)
  (ih0 : ∀ t, t ∈ c → Tests 44 placeB t)
  (hr : Rep w w.heap.size (.mk 43 n s c) (nodeV 43 n s A c.length cap)) :
  Calls Try.prog 24 #[nodeV 43 n s A c.length cap] w fun e w' => e = .returned (.bool (plainB n s && zipB [(44, placeB), (44, placeB)] c)) ∧ Below w.heap.size w w' := by
 have hN := plain_any _ _ _ (hr.alloc (Nat.le_refl _) (.cells #[.int .u8 43, .int .i64 n, .string s, .slice A c.length cap] 26))
 unfold nodeV at hN ⊢
 simp only [Tr.num, Tr.name] at hN
 have HN := Lib.hid hN
 have HR := Lib.hid hr
 clear hN hr
 cases hn : plainB n s
 ·have H := Lib.hid hn
  clear hn
  go_enter Try.func24, Try.ntmps24
  go_wp2_with fail
  refine HN.out.mono ?_
  rw [H.out]
  rintro e w1 ⟨rfl, hb1⟩
  have hb2 := ((Below.refl _ w).alloc (Nat.le_refl _) _).trans (hb1.mono (by simp))
  clear hb1
  go_wp2_with fail
  go_ret
  exact ⟨by simp, hb2⟩
 ·have H := Lib.hid hn
  clear hn
  have hfs : ∀ p, p ∈ [(44, placeB), (44, placeB)] → ∀ u, u ∈ c → Tests p.1 p.2 u := by
   intro p hp
   simp only [List.mem_cons, List.not_mem_nil, or_false] at hp
   rcases hp with rfl | rfl
   ·exact ih0
   ·exact ih0
  have heg : ∀ p, p ∈ [(44, placeB), (44, placeB)] → Enters Try.prog p.1 := by
   intro p hp
   simp only [List.mem_cons, List.not_mem_nil, or_false] at hp
   rcases hp with rfl | rfl
   ·exact en_place
   ·exact en_place
  have HFS := Lib.hid hfs
  have HEG := Lib.hid heg
  clear hfs heg
  go_enter Try.func24, Try.ntmps24
  go_wp2_with fail
  refine HN.out.mono ?_
  rw [H.out]
  rintro e w1 ⟨rfl, hb1⟩
  have hb2 := ((Below.refl _ w).alloc (Nat.le_refl _) _).trans (hb1.mono (by simp))
  have hr1 := HR.out.at_ (Nat.le_refl _) hb2
  have HR1 := Lib.hid hr1
  obtain ⟨x0, x1, x2, x3⟩ := box_at hb1
  clear hb1 hr1
  go_wp2_with fail
  refine (kids_at [(44, placeB), (44, placeB)] 2 rfl (by omega) (.mk 43 n s c) HFS.out HEG.out _ w1 HR1.out _ _ rfl _).mono ?_
  rintro e w2 ⟨rfl, hb3⟩
  have hb4 := hb2.trans (hb3.mono hb2.size)
  clear hb3
  go_wp2_with fail
  go_ret
  exact ⟨by simp [Tr.kids], hb4⟩

set_option maxHeartbeats 400000 in
theorem isStmt_44 (n : Int) (s : ByteArray) (c : List Tr) (A : Option Addr) (cap : Nat) (w : World)
  (ih0 : ∀ t, t ∈ c → Tests 44 placeB t)
  (hr : Rep w w.heap.size (.mk 44 n s c) (nodeV 44 n s A c.length cap)) :
  Calls Try.prog 24 #[nodeV 44 n s A c.length cap] w fun e w' => e = .returned (.bool (namedB n s && zipB [(44, placeB)] c)) ∧ Below w.heap.size w w' := by
 have hN := named_any _ _ _ (hr.alloc (Nat.le_refl _) (.cells #[.int .u8 44, .int .i64 n, .string s, .slice A c.length cap] 26))
 unfold nodeV at hN ⊢
 simp only [Tr.num, Tr.name] at hN
 have HN := Lib.hid hN
 have HR := Lib.hid hr
 clear hN hr
 cases hn : namedB n s
 ·have H := Lib.hid hn
  clear hn
  go_enter Try.func24, Try.ntmps24
  go_wp2_with fail
  refine HN.out.mono ?_
  rw [H.out]
  rintro e w1 ⟨rfl, hb1⟩
  have hb2 := ((Below.refl _ w).alloc (Nat.le_refl _) _).trans (hb1.mono (by simp))
  clear hb1
  go_wp2_with fail
  go_ret
  exact ⟨by simp, hb2⟩
 ·have H := Lib.hid hn
  clear hn
  have hfs : ∀ p, p ∈ [(44, placeB)] → ∀ u, u ∈ c → Tests p.1 p.2 u := by
   intro p hp
   simp only [List.mem_cons, List.not_mem_nil, or_false] at hp
   rcases hp with rfl
   ·exact ih0
  have heg : ∀ p, p ∈ [(44, placeB)] → Enters Try.prog p.1 := by
   intro p hp
   simp only [List.mem_cons, List.not_mem_nil, or_false] at hp
   rcases hp with rfl
   ·exact en_place
  have HFS := Lib.hid hfs
  have HEG := Lib.hid heg
  clear hfs heg
  go_enter Try.func24, Try.ntmps24
  go_wp2_with fail
  refine HN.out.mono ?_
  rw [H.out]
  rintro e w1 ⟨rfl, hb1⟩
  have hb2 := ((Below.refl _ w).alloc (Nat.le_refl _) _).trans (hb1.mono (by simp))
  have hr1 := HR.out.at_ (Nat.le_refl _) hb2
  have HR1 := Lib.hid hr1
  obtain ⟨x0, x1, x2, x3⟩ := box_at hb1
  clear hb1 hr1
  go_wp2_with fail
  refine (kids_at [(44, placeB)] 1 rfl (by omega) (.mk 44 n s c) HFS.out HEG.out _ w1 HR1.out _ _ rfl _).mono ?_
  rintro e w2 ⟨rfl, hb3⟩
  have hb4 := hb2.trans (hb3.mono hb2.size)
  clear hb3
  go_wp2_with fail
  go_ret
  exact ⟨by simp [Tr.kids], hb4⟩

set_option maxHeartbeats 400000 in
theorem isStmt_45 (n : Int) (s : ByteArray) (c : List Tr) (A : Option Addr) (cap : Nat) (w : World)
  (ih0 : ∀ t, t ∈ c → Tests 44 placeB t)
  (hr : Rep w w.heap.size (.mk 45 n s c) (nodeV 45 n s A c.length cap)) :
  Calls Try.prog 24 #[nodeV 45 n s A c.length cap] w fun e w' => e = .returned (.bool (namedB n s && zipB [(44, placeB)] c)) ∧ Below w.heap.size w w' := by
 have hN := named_any _ _ _ (hr.alloc (Nat.le_refl _) (.cells #[.int .u8 45, .int .i64 n, .string s, .slice A c.length cap] 26))
 unfold nodeV at hN ⊢
 simp only [Tr.num, Tr.name] at hN
 have HN := Lib.hid hN
 have HR := Lib.hid hr
 clear hN hr
 cases hn : namedB n s
 ·have H := Lib.hid hn
  clear hn
  go_enter Try.func24, Try.ntmps24
  go_wp2_with fail
  refine HN.out.mono ?_
  rw [H.out]
  rintro e w1 ⟨rfl, hb1⟩
  have hb2 := ((Below.refl _ w).alloc (Nat.le_refl _) _).trans (hb1.mono (by simp))
  clear hb1
  go_wp2_with fail
  go_ret
  exact ⟨by simp, hb2⟩
 ·have H := Lib.hid hn
  clear hn
  have hfs : ∀ p, p ∈ [(44, placeB)] → ∀ u, u ∈ c → Tests p.1 p.2 u := by
   intro p hp
   simp only [List.mem_cons, List.not_mem_nil, or_false] at hp
   rcases hp with rfl
   ·exact ih0
  have heg : ∀ p, p ∈ [(44, placeB)] → Enters Try.prog p.1 := by
   intro p hp
   simp only [List.mem_cons, List.not_mem_nil, or_false] at hp
   rcases hp with rfl
   ·exact en_place
  have HFS := Lib.hid hfs
  have HEG := Lib.hid heg
  clear hfs heg
  go_enter Try.func24, Try.ntmps24
  go_wp2_with fail
  refine HN.out.mono ?_
  rw [H.out]
  rintro e w1 ⟨rfl, hb1⟩
  have hb2 := ((Below.refl _ w).alloc (Nat.le_refl _) _).trans (hb1.mono (by simp))
  have hr1 := HR.out.at_ (Nat.le_refl _) hb2
  have HR1 := Lib.hid hr1
  obtain ⟨x0, x1, x2, x3⟩ := box_at hb1
  clear hb1 hr1
  go_wp2_with fail
  refine (kids_at [(44, placeB)] 1 rfl (by omega) (.mk 45 n s c) HFS.out HEG.out _ w1 HR1.out _ _ rfl _).mono ?_
  rintro e w2 ⟨rfl, hb3⟩
  have hb4 := hb2.trans (hb3.mono hb2.size)
  clear hb3
  go_wp2_with fail
  go_ret
  exact ⟨by simp [Tr.kids], hb4⟩

set_option maxHeartbeats 400000 in
theorem isStmt_46 (n : Int) (s : ByteArray) (c : List Tr) (A : Option Addr) (cap : Nat) (w : World)
  (ih0 : ∀ t, t ∈ c → Tests 44 placeB t)
  (hr : Rep w w.heap.size (.mk 46 n s c) (nodeV 46 n s A c.length cap)) :
  Calls Try.prog 24 #[nodeV 46 n s A c.length cap] w fun e w' => e = .returned (.bool (plainB n s && zipB [(44, placeB)] c)) ∧ Below w.heap.size w w' := by
 have hN := plain_any _ _ _ (hr.alloc (Nat.le_refl _) (.cells #[.int .u8 46, .int .i64 n, .string s, .slice A c.length cap] 26))
 unfold nodeV at hN ⊢
 simp only [Tr.num, Tr.name] at hN
 have HN := Lib.hid hN
 have HR := Lib.hid hr
 clear hN hr
 cases hn : plainB n s
 ·have H := Lib.hid hn
  clear hn
  go_enter Try.func24, Try.ntmps24
  go_wp2_with fail
  refine HN.out.mono ?_
  rw [H.out]
  rintro e w1 ⟨rfl, hb1⟩
  have hb2 := ((Below.refl _ w).alloc (Nat.le_refl _) _).trans (hb1.mono (by simp))
  clear hb1
  go_wp2_with fail
  go_ret
  exact ⟨by simp, hb2⟩
 ·have H := Lib.hid hn
  clear hn
  have hfs : ∀ p, p ∈ [(44, placeB)] → ∀ u, u ∈ c → Tests p.1 p.2 u := by
   intro p hp
   simp only [List.mem_cons, List.not_mem_nil, or_false] at hp
   rcases hp with rfl
   ·exact ih0
  have heg : ∀ p, p ∈ [(44, placeB)] → Enters Try.prog p.1 := by
   intro p hp
   simp only [List.mem_cons, List.not_mem_nil, or_false] at hp
   rcases hp with rfl
   ·exact en_place
  have HFS := Lib.hid hfs
  have HEG := Lib.hid heg
  clear hfs heg
  go_enter Try.func24, Try.ntmps24
  go_wp2_with fail
  refine HN.out.mono ?_
  rw [H.out]
  rintro e w1 ⟨rfl, hb1⟩
  have hb2 := ((Below.refl _ w).alloc (Nat.le_refl _) _).trans (hb1.mono (by simp))
  have hr1 := HR.out.at_ (Nat.le_refl _) hb2
  have HR1 := Lib.hid hr1
  obtain ⟨x0, x1, x2, x3⟩ := box_at hb1
  clear hb1 hr1
  go_wp2_with fail
  refine (kids_at [(44, placeB)] 1 rfl (by omega) (.mk 46 n s c) HFS.out HEG.out _ w1 HR1.out _ _ rfl _).mono ?_
  rintro e w2 ⟨rfl, hb3⟩
  have hb4 := hb2.trans (hb3.mono hb2.size)
  clear hb3
  go_wp2_with fail
  go_ret
  exact ⟨by simp [Tr.kids], hb4⟩

set_option maxHeartbeats 400000 in
theorem isStmt_47 (n : Int) (s : ByteArray) (c : List Tr) (A : Option Addr) (cap : Nat) (w : World)
  (ih0 : ∀ t, t ∈ c → Tests 44 placeB t)
  (hr : Rep w w.heap.size (.mk 47 n s c) (nodeV 47 n s A c.length cap)) :
  Calls Try.prog 24 #[nodeV 47 n s A c.length cap] w fun e w' => e = .returned (.bool (plainB n s && zipB [(44, placeB)] c)) ∧ Below w.heap.size w w' := by
 have hN := plain_any _ _ _ (hr.alloc (Nat.le_refl _) (.cells #[.int .u8 47, .int .i64 n, .string s, .slice A c.length cap] 26))
 unfold nodeV at hN ⊢
 simp only [Tr.num, Tr.name] at hN
 have HN := Lib.hid hN
 have HR := Lib.hid hr
 clear hN hr
 cases hn : plainB n s
 ·have H := Lib.hid hn
  clear hn
  go_enter Try.func24, Try.ntmps24
  go_wp2_with fail
  refine HN.out.mono ?_
  rw [H.out]
  rintro e w1 ⟨rfl, hb1⟩
  have hb2 := ((Below.refl _ w).alloc (Nat.le_refl _) _).trans (hb1.mono (by simp))
  clear hb1
  go_wp2_with fail
  go_ret
  exact ⟨by simp, hb2⟩
 ·have H := Lib.hid hn
  clear hn
  have hfs : ∀ p, p ∈ [(44, placeB)] → ∀ u, u ∈ c → Tests p.1 p.2 u := by
   intro p hp
   simp only [List.mem_cons, List.not_mem_nil, or_false] at hp
   rcases hp with rfl
   ·exact ih0
  have heg : ∀ p, p ∈ [(44, placeB)] → Enters Try.prog p.1 := by
   intro p hp
   simp only [List.mem_cons, List.not_mem_nil, or_false] at hp
   rcases hp with rfl
   ·exact en_place
  have HFS := Lib.hid hfs
  have HEG := Lib.hid heg
  clear hfs heg
  go_enter Try.func24, Try.ntmps24
  go_wp2_with fail
  refine HN.out.mono ?_
  rw [H.out]
  rintro e w1 ⟨rfl, hb1⟩
  have hb2 := ((Below.refl _ w).alloc (Nat.le_refl _) _).trans (hb1.mono (by simp))
  have hr1 := HR.out.at_ (Nat.le_refl _) hb2
  have HR1 := Lib.hid hr1
  obtain ⟨x0, x1, x2, x3⟩ := box_at hb1
  clear hb1 hr1
  go_wp2_with fail
  refine (kids_at [(44, placeB)] 1 rfl (by omega) (.mk 47 n s c) HFS.out HEG.out _ w1 HR1.out _ _ rfl _).mono ?_
  rintro e w2 ⟨rfl, hb3⟩
  have hb4 := hb2.trans (hb3.mono hb2.size)
  clear hb3
  go_wp2_with fail
  go_ret
  exact ⟨by simp [Tr.kids], hb4⟩

set_option maxHeartbeats 400000 in
theorem isStmt_48 (n : Int) (s : ByteArray) (c : List Tr) (A : Option Addr) (cap : Nat) (w : World)
  (ih0 : ∀ t, t ∈ c → Tests 44 placeB t)
  (hr : Rep w w.heap.size (.mk 48 n s c) (nodeV 48 n s A c.length cap)) :
  Calls Try.prog 24 #[nodeV 48 n s A c.length cap] w fun e w' => e = .returned (.bool (plainB n s && zipB [(44, placeB)] c)) ∧ Below w.heap.size w w' := by
 have hN := plain_any _ _ _ (hr.alloc (Nat.le_refl _) (.cells #[.int .u8 48, .int .i64 n, .string s, .slice A c.length cap] 26))
 unfold nodeV at hN ⊢
 simp only [Tr.num, Tr.name] at hN
 have HN := Lib.hid hN
 have HR := Lib.hid hr
 clear hN hr
 cases hn : plainB n s
 ·have H := Lib.hid hn
  clear hn
  go_enter Try.func24, Try.ntmps24
  go_wp2_with fail
  refine HN.out.mono ?_
  rw [H.out]
  rintro e w1 ⟨rfl, hb1⟩
  have hb2 := ((Below.refl _ w).alloc (Nat.le_refl _) _).trans (hb1.mono (by simp))
  clear hb1
  go_wp2_with fail
  go_ret
  exact ⟨by simp, hb2⟩
 ·have H := Lib.hid hn
  clear hn
  have hfs : ∀ p, p ∈ [(44, placeB)] → ∀ u, u ∈ c → Tests p.1 p.2 u := by
   intro p hp
   simp only [List.mem_cons, List.not_mem_nil, or_false] at hp
   rcases hp with rfl
   ·exact ih0
  have heg : ∀ p, p ∈ [(44, placeB)] → Enters Try.prog p.1 := by
   intro p hp
   simp only [List.mem_cons, List.not_mem_nil, or_false] at hp
   rcases hp with rfl
   ·exact en_place
  have HFS := Lib.hid hfs
  have HEG := Lib.hid heg
  clear hfs heg
  go_enter Try.func24, Try.ntmps24
  go_wp2_with fail
  refine HN.out.mono ?_
  rw [H.out]
  rintro e w1 ⟨rfl, hb1⟩
  have hb2 := ((Below.refl _ w).alloc (Nat.le_refl _) _).trans (hb1.mono (by simp))
  have hr1 := HR.out.at_ (Nat.le_refl _) hb2
  have HR1 := Lib.hid hr1
  obtain ⟨x0, x1, x2, x3⟩ := box_at hb1
  clear hb1 hr1
  go_wp2_with fail
  refine (kids_at [(44, placeB)] 1 rfl (by omega) (.mk 48 n s c) HFS.out HEG.out _ w1 HR1.out _ _ rfl _).mono ?_
  rintro e w2 ⟨rfl, hb3⟩
  have hb4 := hb2.trans (hb3.mono hb2.size)
  clear hb3
  go_wp2_with fail
  go_ret
  exact ⟨by simp [Tr.kids], hb4⟩

set_option maxHeartbeats 400000 in
theorem isStmt_49 (n : Int) (s : ByteArray) (c : List Tr) (A : Option Addr) (cap : Nat) (w : World)
  (ih0 : ∀ t, t ∈ c → Tests 44 placeB t)
  (hr : Rep w w.heap.size (.mk 49 n s c) (nodeV 49 n s A c.length cap)) :
  Calls Try.prog 24 #[nodeV 49 n s A c.length cap] w fun e w' => e = .returned (.bool (plainB n s && zipB [(44, placeB)] c)) ∧ Below w.heap.size w w' := by
 have hN := plain_any _ _ _ (hr.alloc (Nat.le_refl _) (.cells #[.int .u8 49, .int .i64 n, .string s, .slice A c.length cap] 26))
 unfold nodeV at hN ⊢
 simp only [Tr.num, Tr.name] at hN
 have HN := Lib.hid hN
 have HR := Lib.hid hr
 clear hN hr
 cases hn : plainB n s
 ·have H := Lib.hid hn
  clear hn
  go_enter Try.func24, Try.ntmps24
  go_wp2_with fail
  refine HN.out.mono ?_
  rw [H.out]
  rintro e w1 ⟨rfl, hb1⟩
  have hb2 := ((Below.refl _ w).alloc (Nat.le_refl _) _).trans (hb1.mono (by simp))
  clear hb1
  go_wp2_with fail
  go_ret
  exact ⟨by simp, hb2⟩
 ·have H := Lib.hid hn
  clear hn
  have hfs : ∀ p, p ∈ [(44, placeB)] → ∀ u, u ∈ c → Tests p.1 p.2 u := by
   intro p hp
   simp only [List.mem_cons, List.not_mem_nil, or_false] at hp
   rcases hp with rfl
   ·exact ih0
  have heg : ∀ p, p ∈ [(44, placeB)] → Enters Try.prog p.1 := by
   intro p hp
   simp only [List.mem_cons, List.not_mem_nil, or_false] at hp
   rcases hp with rfl
   ·exact en_place
  have HFS := Lib.hid hfs
  have HEG := Lib.hid heg
  clear hfs heg
  go_enter Try.func24, Try.ntmps24
  go_wp2_with fail
  refine HN.out.mono ?_
  rw [H.out]
  rintro e w1 ⟨rfl, hb1⟩
  have hb2 := ((Below.refl _ w).alloc (Nat.le_refl _) _).trans (hb1.mono (by simp))
  have hr1 := HR.out.at_ (Nat.le_refl _) hb2
  have HR1 := Lib.hid hr1
  obtain ⟨x0, x1, x2, x3⟩ := box_at hb1
  clear hb1 hr1
  go_wp2_with fail
  refine (kids_at [(44, placeB)] 1 rfl (by omega) (.mk 49 n s c) HFS.out HEG.out _ w1 HR1.out _ _ rfl _).mono ?_
  rintro e w2 ⟨rfl, hb3⟩
  have hb4 := hb2.trans (hb3.mono hb2.size)
  clear hb3
  go_wp2_with fail
  go_ret
  exact ⟨by simp [Tr.kids], hb4⟩

set_option maxHeartbeats 400000 in
theorem isStmt_52 (n : Int) (s : ByteArray) (c : List Tr) (A : Option Addr) (cap : Nat) (w : World)
  (ih0 : ∀ t, t ∈ c → Tests 45 exprB t) (ih1 : ∀ t, t ∈ c → Tests 49 blockB t)
  (hr : Rep w w.heap.size (.mk 52 n s c) (nodeV 52 n s A c.length cap)) :
  Calls Try.prog 24 #[nodeV 52 n s A c.length cap] w fun e w' => e = .returned (.bool (plainB n s && zipB [(45, exprB), (49, blockB), (49, blockB), (45, exprB)] c)) ∧ Below w.heap.size w w' := by
 have hN := plain_any _ _ _ (hr.alloc (Nat.le_refl _) (.cells #[.int .u8 52, .int .i64 n, .string s, .slice A c.length cap] 26))
 unfold nodeV at hN ⊢
 simp only [Tr.num, Tr.name] at hN
 have HN := Lib.hid hN
 have HR := Lib.hid hr
 clear hN hr
 cases hn : plainB n s
 ·have H := Lib.hid hn
  clear hn
  go_enter Try.func24, Try.ntmps24
  go_wp2_with fail
  refine HN.out.mono ?_
  rw [H.out]
  rintro e w1 ⟨rfl, hb1⟩
  have hb2 := ((Below.refl _ w).alloc (Nat.le_refl _) _).trans (hb1.mono (by simp))
  clear hb1
  go_wp2_with fail
  go_ret
  exact ⟨by simp, hb2⟩
 ·have H := Lib.hid hn
  clear hn
  have hfs : ∀ p, p ∈ [(45, exprB), (49, blockB), (49, blockB), (45, exprB)] → ∀ u, u ∈ c → Tests p.1 p.2 u := by
   intro p hp
   simp only [List.mem_cons, List.not_mem_nil, or_false] at hp
   rcases hp with rfl | rfl | rfl | rfl
   ·exact ih0
   ·exact ih1
   ·exact ih1
   ·exact ih0
  have heg : ∀ p, p ∈ [(45, exprB), (49, blockB), (49, blockB), (45, exprB)] → Enters Try.prog p.1 := by
   intro p hp
   simp only [List.mem_cons, List.not_mem_nil, or_false] at hp
   rcases hp with rfl | rfl | rfl | rfl
   ·exact en_expr
   ·exact en_block
   ·exact en_block
   ·exact en_expr
  have HFS := Lib.hid hfs
  have HEG := Lib.hid heg
  clear hfs heg
  go_enter Try.func24, Try.ntmps24
  go_wp2_with fail
  refine HN.out.mono ?_
  rw [H.out]
  rintro e w1 ⟨rfl, hb1⟩
  have hb2 := ((Below.refl _ w).alloc (Nat.le_refl _) _).trans (hb1.mono (by simp))
  have hr1 := HR.out.at_ (Nat.le_refl _) hb2
  have HR1 := Lib.hid hr1
  obtain ⟨x0, x1, x2, x3⟩ := box_at hb1
  clear hb1 hr1
  go_wp2_with fail
  refine (kids_at [(45, exprB), (49, blockB), (49, blockB), (45, exprB)] 4 rfl (by omega) (.mk 52 n s c) HFS.out HEG.out _ w1 HR1.out _ _ rfl _).mono ?_
  rintro e w2 ⟨rfl, hb3⟩
  have hb4 := hb2.trans (hb3.mono hb2.size)
  clear hb3
  go_wp2_with fail
  go_ret
  exact ⟨by simp [Tr.kids], hb4⟩

set_option maxHeartbeats 400000 in
theorem isStmt_53 (n : Int) (s : ByteArray) (c : List Tr) (A : Option Addr) (cap : Nat) (w : World)
  (ih0 : ∀ t, t ∈ c → Tests 45 exprB t) (ih1 : ∀ t, t ∈ c → Tests 49 blockB t)
  (hr : Rep w w.heap.size (.mk 53 n s c) (nodeV 53 n s A c.length cap)) :
  Calls Try.prog 24 #[nodeV 53 n s A c.length cap] w fun e w' => e = .returned (.bool (plainB n s && zipB [(45, exprB), (49, blockB), (49, blockB), (45, exprB)] c)) ∧ Below w.heap.size w w' := by
 have hN := plain_any _ _ _ (hr.alloc (Nat.le_refl _) (.cells #[.int .u8 53, .int .i64 n, .string s, .slice A c.length cap] 26))
 unfold nodeV at hN ⊢
 simp only [Tr.num, Tr.name] at hN
 have HN := Lib.hid hN
 have HR := Lib.hid hr
 clear hN hr
 cases hn : plainB n s
 ·have H := Lib.hid hn
  clear hn
  go_enter Try.func24, Try.ntmps24
  go_wp2_with fail
  refine HN.out.mono ?_
  rw [H.out]
  rintro e w1 ⟨rfl, hb1⟩
  have hb2 := ((Below.refl _ w).alloc (Nat.le_refl _) _).trans (hb1.mono (by simp))
  clear hb1
  go_wp2_with fail
  go_ret
  exact ⟨by simp, hb2⟩
 ·have H := Lib.hid hn
  clear hn
  have hfs : ∀ p, p ∈ [(45, exprB), (49, blockB), (49, blockB), (45, exprB)] → ∀ u, u ∈ c → Tests p.1 p.2 u := by
   intro p hp
   simp only [List.mem_cons, List.not_mem_nil, or_false] at hp
   rcases hp with rfl | rfl | rfl | rfl
   ·exact ih0
   ·exact ih1
   ·exact ih1
   ·exact ih0
  have heg : ∀ p, p ∈ [(45, exprB), (49, blockB), (49, blockB), (45, exprB)] → Enters Try.prog p.1 := by
   intro p hp
   simp only [List.mem_cons, List.not_mem_nil, or_false] at hp
   rcases hp with rfl | rfl | rfl | rfl
   ·exact en_expr
   ·exact en_block
   ·exact en_block
   ·exact en_expr
  have HFS := Lib.hid hfs
  have HEG := Lib.hid heg
  clear hfs heg
  go_enter Try.func24, Try.ntmps24
  go_wp2_with fail
  refine HN.out.mono ?_
  rw [H.out]
  rintro e w1 ⟨rfl, hb1⟩
  have hb2 := ((Below.refl _ w).alloc (Nat.le_refl _) _).trans (hb1.mono (by simp))
  have hr1 := HR.out.at_ (Nat.le_refl _) hb2
  have HR1 := Lib.hid hr1
  obtain ⟨x0, x1, x2, x3⟩ := box_at hb1
  clear hb1 hr1
  go_wp2_with fail
  refine (kids_at [(45, exprB), (49, blockB), (49, blockB), (45, exprB)] 4 rfl (by omega) (.mk 53 n s c) HFS.out HEG.out _ w1 HR1.out _ _ rfl _).mono ?_
  rintro e w2 ⟨rfl, hb3⟩
  have hb4 := hb2.trans (hb3.mono hb2.size)
  clear hb3
  go_wp2_with fail
  go_ret
  exact ⟨by simp [Tr.kids], hb4⟩

set_option maxHeartbeats 400000 in
theorem isStmt_54 (n : Int) (s : ByteArray) (c : List Tr) (A : Option Addr) (cap : Nat) (w : World)
  (ih0 : ∀ t, t ∈ c → Tests 45 exprB t) (ih1 : ∀ t, t ∈ c → Tests 49 blockB t)
  (hr : Rep w w.heap.size (.mk 54 n s c) (nodeV 54 n s A c.length cap)) :
  Calls Try.prog 24 #[nodeV 54 n s A c.length cap] w fun e w' => e = .returned (.bool (namedB n s && zipB [(45, exprB), (49, blockB), (45, exprB)] c)) ∧ Below w.heap.size w w' := by
 have hN := named_any _ _ _ (hr.alloc (Nat.le_refl _) (.cells #[.int .u8 54, .int .i64 n, .string s, .slice A c.length cap] 26))
 unfold nodeV at hN ⊢
 simp only [Tr.num, Tr.name] at hN
 have HN := Lib.hid hN
 have HR := Lib.hid hr
 clear hN hr
 cases hn : namedB n s
 ·have H := Lib.hid hn
  clear hn
  go_enter Try.func24, Try.ntmps24
  go_wp2_with fail
  refine HN.out.mono ?_
  rw [H.out]
  rintro e w1 ⟨rfl, hb1⟩
  have hb2 := ((Below.refl _ w).alloc (Nat.le_refl _) _).trans (hb1.mono (by simp))
  clear hb1
  go_wp2_with fail
  go_ret
  exact ⟨by simp, hb2⟩
 ·have H := Lib.hid hn
  clear hn
  have hfs : ∀ p, p ∈ [(45, exprB), (49, blockB), (45, exprB)] → ∀ u, u ∈ c → Tests p.1 p.2 u := by
   intro p hp
   simp only [List.mem_cons, List.not_mem_nil, or_false] at hp
   rcases hp with rfl | rfl | rfl
   ·exact ih0
   ·exact ih1
   ·exact ih0
  have heg : ∀ p, p ∈ [(45, exprB), (49, blockB), (45, exprB)] → Enters Try.prog p.1 := by
   intro p hp
   simp only [List.mem_cons, List.not_mem_nil, or_false] at hp
   rcases hp with rfl | rfl | rfl
   ·exact en_expr
   ·exact en_block
   ·exact en_expr
  have HFS := Lib.hid hfs
  have HEG := Lib.hid heg
  clear hfs heg
  go_enter Try.func24, Try.ntmps24
  go_wp2_with fail
  refine HN.out.mono ?_
  rw [H.out]
  rintro e w1 ⟨rfl, hb1⟩
  have hb2 := ((Below.refl _ w).alloc (Nat.le_refl _) _).trans (hb1.mono (by simp))
  have hr1 := HR.out.at_ (Nat.le_refl _) hb2
  have HR1 := Lib.hid hr1
  obtain ⟨x0, x1, x2, x3⟩ := box_at hb1
  clear hb1 hr1
  go_wp2_with fail
  refine (kids_at [(45, exprB), (49, blockB), (45, exprB)] 3 rfl (by omega) (.mk 54 n s c) HFS.out HEG.out _ w1 HR1.out _ _ rfl _).mono ?_
  rintro e w2 ⟨rfl, hb3⟩
  have hb4 := hb2.trans (hb3.mono hb2.size)
  clear hb3
  go_wp2_with fail
  go_ret
  exact ⟨by simp [Tr.kids], hb4⟩

set_option maxHeartbeats 400000 in
theorem isStmt_55 (n : Int) (s : ByteArray) (c : List Tr) (A : Option Addr) (cap : Nat) (w : World)
  (ih0 : ∀ t, t ∈ c → Tests 49 blockB t)
  (hr : Rep w w.heap.size (.mk 55 n s c) (nodeV 55 n s A c.length cap)) :
  Calls Try.prog 24 #[nodeV 55 n s A c.length cap] w fun e w' => e = .returned (.bool (namedB n s && zipB [(49, blockB)] c)) ∧ Below w.heap.size w w' := by
 have hN := named_any _ _ _ (hr.alloc (Nat.le_refl _) (.cells #[.int .u8 55, .int .i64 n, .string s, .slice A c.length cap] 26))
 unfold nodeV at hN ⊢
 simp only [Tr.num, Tr.name] at hN
 have HN := Lib.hid hN
 have HR := Lib.hid hr
 clear hN hr
 cases hn : namedB n s
 ·have H := Lib.hid hn
  clear hn
  go_enter Try.func24, Try.ntmps24
  go_wp2_with fail
  refine HN.out.mono ?_
  rw [H.out]
  rintro e w1 ⟨rfl, hb1⟩
  have hb2 := ((Below.refl _ w).alloc (Nat.le_refl _) _).trans (hb1.mono (by simp))
  clear hb1
  go_wp2_with fail
  go_ret
  exact ⟨by simp, hb2⟩
 ·have H := Lib.hid hn
  clear hn
  have hfs : ∀ p, p ∈ [(49, blockB)] → ∀ u, u ∈ c → Tests p.1 p.2 u := by
   intro p hp
   simp only [List.mem_cons, List.not_mem_nil, or_false] at hp
   rcases hp with rfl
   ·exact ih0
  have heg : ∀ p, p ∈ [(49, blockB)] → Enters Try.prog p.1 := by
   intro p hp
   simp only [List.mem_cons, List.not_mem_nil, or_false] at hp
   rcases hp with rfl
   ·exact en_block
  have HFS := Lib.hid hfs
  have HEG := Lib.hid heg
  clear hfs heg
  go_enter Try.func24, Try.ntmps24
  go_wp2_with fail
  refine HN.out.mono ?_
  rw [H.out]
  rintro e w1 ⟨rfl, hb1⟩
  have hb2 := ((Below.refl _ w).alloc (Nat.le_refl _) _).trans (hb1.mono (by simp))
  have hr1 := HR.out.at_ (Nat.le_refl _) hb2
  have HR1 := Lib.hid hr1
  obtain ⟨x0, x1, x2, x3⟩ := box_at hb1
  clear hb1 hr1
  go_wp2_with fail
  refine (kids_at [(49, blockB)] 1 rfl (by omega) (.mk 55 n s c) HFS.out HEG.out _ w1 HR1.out _ _ rfl _).mono ?_
  rintro e w2 ⟨rfl, hb3⟩
  have hb4 := hb2.trans (hb3.mono hb2.size)
  clear hb3
  go_wp2_with fail
  go_ret
  exact ⟨by simp [Tr.kids], hb4⟩

set_option maxHeartbeats 400000 in
theorem isStmt_50 (n : Int) (s : ByteArray) (c : List Tr) (A : Option Addr) (cap : Nat) (w : World)
  (hr : Rep w w.heap.size (.mk 50 n s c) (nodeV 50 n s A c.length cap)) :
  Calls Try.prog 24 #[nodeV 50 n s A c.length cap] w fun e w' => e = .returned (.bool (namedB n s && decide ((c.length : Int) ≤ 8) && c.all varB)) ∧ Below w.heap.size w w' := by
 have hN := named_any _ _ _ (hr.alloc (Nat.le_refl _) (.cells #[.int .u8 50, .int .i64 n, .string s, .slice A c.length cap] 26))
 have hrow : RepRow w w.heap.size c A 0 := by
  simp only [Rep] at hr
  obtain ⟨A', cap', he, _, hrow⟩ := hr
  simp only [nodeV, Value.agg.injEq, Array.mk.injEq, List.cons.injEq, Value.slice.injEq, true_and, and_true] at he
  obtain ⟨rfl, _⟩ := he
  exact hrow
 have HROW := Lib.hid hrow
 unfold nodeV at hN ⊢
 simp only [Tr.num, Tr.name] at hN
 have HN := Lib.hid hN
 clear hN hr hrow
 cases hn : namedB n s
 ·have H := Lib.hid hn
  clear hn
  go_enter Try.func24, Try.ntmps24
  go_wp2_with fail
  refine HN.out.mono ?_
  rw [H.out]
  rintro e w1 ⟨rfl, hb1⟩
  have hb2 := ((Below.refl _ w).alloc (Nat.le_refl _) _).trans (hb1.mono (by simp))
  clear hb1
  go_wp2_with fail
  go_ret
  exact ⟨by simp, hb2⟩
 ·have H := Lib.hid hn
  clear hn
  by_cases h8 : (c.length : Int) ≤ 8
  ·go_enter Try.func24, Try.ntmps24
   go_wp2_with fail
   refine HN.out.mono ?_
   rw [H.out]
   rintro e w1 ⟨rfl, hb1⟩
   have hb2 := ((Below.refl _ w).alloc (Nat.le_refl _) _).trans (hb1.mono (by simp))
   have hrow1 := (HROW.out.below hb2).more hb2.size
   have HROW1 := Lib.hid hrow1
   obtain ⟨x0, x1, x2, x3⟩ := box_at hb1
   clear hb1 hrow1
   go_wp2_with fail
   refine (every_any varB 48 en_var c (fun t _ => isVar_any t) A cap w1 (by omega) HROW1.out).mono ?_
   rintro e w2 ⟨rfl, hb3⟩
   have hb4 := hb2.trans (hb3.mono hb2.size)
   clear hb3
   go_wp2_with fail
   go_ret
   exact ⟨by simp [h8], hb4⟩
  ·go_enter Try.func24, Try.ntmps24
   go_wp2_with fail
   refine HN.out.mono ?_
   rw [H.out]
   rintro e w1 ⟨rfl, hb1⟩
   have hb2 := ((Below.refl _ w).alloc (Nat.le_refl _) _).trans (hb1.mono (by simp))
   obtain ⟨x0, x1, x2, x3⟩ := box_at hb1
   clear hb1
   go_wp2_with fail
   go_ret
   exact ⟨by simp; omega, hb2⟩

set_option maxHeartbeats 400000 in
theorem isStmt_51 (n : Int) (s : ByteArray) (c : List Tr) (A : Option Addr) (cap : Nat) (w : World)
  (hr : Rep w w.heap.size (.mk 51 n s c) (nodeV 51 n s A c.length cap)) :
  Calls Try.prog 24 #[nodeV 51 n s A c.length cap] w fun e w' => e = .returned (.bool (namedB n s && decide ((c.length : Int) ≤ 8) && c.all varB)) ∧ Below w.heap.size w w' := by
 have hN := named_any _ _ _ (hr.alloc (Nat.le_refl _) (.cells #[.int .u8 51, .int .i64 n, .string s, .slice A c.length cap] 26))
 have hrow : RepRow w w.heap.size c A 0 := by
  simp only [Rep] at hr
  obtain ⟨A', cap', he, _, hrow⟩ := hr
  simp only [nodeV, Value.agg.injEq, Array.mk.injEq, List.cons.injEq, Value.slice.injEq, true_and, and_true] at he
  obtain ⟨rfl, _⟩ := he
  exact hrow
 have HROW := Lib.hid hrow
 unfold nodeV at hN ⊢
 simp only [Tr.num, Tr.name] at hN
 have HN := Lib.hid hN
 clear hN hr hrow
 cases hn : namedB n s
 ·have H := Lib.hid hn
  clear hn
  go_enter Try.func24, Try.ntmps24
  go_wp2_with fail
  refine HN.out.mono ?_
  rw [H.out]
  rintro e w1 ⟨rfl, hb1⟩
  have hb2 := ((Below.refl _ w).alloc (Nat.le_refl _) _).trans (hb1.mono (by simp))
  clear hb1
  go_wp2_with fail
  go_ret
  exact ⟨by simp, hb2⟩
 ·have H := Lib.hid hn
  clear hn
  by_cases h8 : (c.length : Int) ≤ 8
  ·go_enter Try.func24, Try.ntmps24
   go_wp2_with fail
   refine HN.out.mono ?_
   rw [H.out]
   rintro e w1 ⟨rfl, hb1⟩
   have hb2 := ((Below.refl _ w).alloc (Nat.le_refl _) _).trans (hb1.mono (by simp))
   have hrow1 := (HROW.out.below hb2).more hb2.size
   have HROW1 := Lib.hid hrow1
   obtain ⟨x0, x1, x2, x3⟩ := box_at hb1
   clear hb1 hrow1
   go_wp2_with fail
   refine (every_any varB 48 en_var c (fun t _ => isVar_any t) A cap w1 (by omega) HROW1.out).mono ?_
   rintro e w2 ⟨rfl, hb3⟩
   have hb4 := hb2.trans (hb3.mono hb2.size)
   clear hb3
   go_wp2_with fail
   go_ret
   exact ⟨by simp [h8], hb4⟩
  ·go_enter Try.func24, Try.ntmps24
   go_wp2_with fail
   refine HN.out.mono ?_
   rw [H.out]
   rintro e w1 ⟨rfl, hb1⟩
   have hb2 := ((Below.refl _ w).alloc (Nat.le_refl _) _).trans (hb1.mono (by simp))
   obtain ⟨x0, x1, x2, x3⟩ := box_at hb1
   clear hb1
   go_wp2_with fail
   go_ret
   exact ⟨by simp; omega, hb2⟩

set_option maxHeartbeats 400000 in
theorem isStmt_other (k : Int) (n : Int) (s : ByteArray) (c : List Tr) (A : Option Addr) (cap : Nat) (w : World) (e40 : (k == 40) = false) (e41 : (k == 41) = false) (e42 : (k == 42) = false) (e56 : (k == 56) = false) (e43 : (k == 43) = false) (e44 : (k == 44) = false) (e45 : (k == 45) = false) (e46 : (k == 46) = false) (e47 : (k == 47) = false) (e48 : (k == 48) = false) (e49 : (k == 49) = false) (e50 : (k == 50) = false) (e51 : (k == 51) = false) (e52 : (k == 52) = false) (e53 : (k == 53) = false) (e54 : (k == 54) = false) (e55 : (k == 55) = false)
  (_hr : Rep w w.heap.size (.mk k n s c) (nodeV k n s A c.length cap)) :
  Calls Try.prog 24 #[nodeV k n s A c.length cap] w fun e w' => e = .returned (.bool (false)) ∧ Below w.heap.size w w' := by
 unfold nodeV
 clear _hr
 go_enter Try.func24, Try.ntmps24
 go_wp2_with fail
 go_ret
 exact ⟨rfl, (Below.refl _ _).alloc (Nat.le_refl _) _⟩

set_option maxHeartbeats 400000 in
theorem isBlock_of (t : Tr) (ih : ∀ u, u ∈ t.kids → Tests 24 stmtB u) : Tests 49 blockB t := by
 cases t with
 | mk k n s c =>
 intro v w hr
 have hr' := hr
 simp only [Rep] at hr'
 obtain ⟨A, cap, rfl, hf, hrow⟩ := hr'
 simp only [Tr.kids] at ih
 have hl1 := hf.l1
 have hl2 := hf.c1
 have IH := Lib.hid ih
 have HROW := Lib.hid hrow
 clear ih hrow
 by_cases h57 : k = 57
 ·subst h57
  have hN := plain_any _ _ _ (hr.alloc (Nat.le_refl _) (.cells #[.int .u8 57, .int .i64 n, .string s, .slice A c.length cap] 26))
  unfold nodeV at hN ⊢
  simp only [Tr.num, Tr.name] at hN
  have HN := Lib.hid hN
  clear hN hr
  cases hn : plainB n s
  ·have H := Lib.hid hn
   clear hn
   go_enter Try.func49, Try.ntmps49
   go_wp2_with fail
   refine HN.out.mono ?_
   rw [H.out]
   rintro e w1 ⟨rfl, hb1⟩
   have hb2 := ((Below.refl _ w).alloc (Nat.le_refl _) _).trans (hb1.mono (by simp))
   clear hb1
   go_wp2_with fail
   go_ret
   exact ⟨by simp [blockB, H.out], hb2⟩
  ·have H := Lib.hid hn
   clear hn
   go_enter Try.func49, Try.ntmps49
   go_wp2_with fail
   refine HN.out.mono ?_
   rw [H.out]
   rintro e w1 ⟨rfl, hb1⟩
   have hb2 := ((Below.refl _ w).alloc (Nat.le_refl _) _).trans (hb1.mono (by simp))
   have hrow1 := (HROW.out.below hb2).more hb2.size
   have HROW1 := Lib.hid hrow1
   obtain ⟨x0, x1, x2, x3⟩ := box_at hb1
   clear hb1 hrow1
   go_wp2_with fail
   refine (every_any stmtB 24 en_stmt c IH.out A cap w1 (by omega) HROW1.out).mono ?_
   rintro e w2 ⟨rfl, hb3⟩
   have hb4 := hb2.trans (hb3.mono hb2.size)
   clear hb3
   go_wp2_with fail
   go_ret
   exact ⟨by simp [blockB, H.out, stmtsB_all], hb4⟩
 ·have e57 : (k == 57) = false := by simp [h57]
  clear hr
  unfold nodeV
  go_enter Try.func49, Try.ntmps49
  go_wp2_with fail
  go_ret
  exact ⟨by simp [blockB, h57], (Below.refl _ _).alloc (Nat.le_refl _) _⟩

theorem cats_zip (c : List Tr) :
  catsB [1, 0] c = zipB [(44, placeB), (45, exprB)] c ∧ catsB [1, 1] c = zipB [(44, placeB), (44, placeB)] c ∧
  catsB [1] c = zipB [(44, placeB)] c ∧ catsB [0, 2, 2, 0] c = zipB [(45, exprB), (49, blockB), (49, blockB), (45, exprB)] c ∧
  catsB [0, 2, 0] c = zipB [(45, exprB), (49, blockB), (45, exprB)] c ∧ catsB [2] c = zipB [(49, blockB)] c := by
 refine ⟨?_, ?_, ?_, ?_, ?_, ?_⟩
 all_goals
  rcases c with _ | ⟨t0, _ | ⟨t1, _ | ⟨t2, _ | ⟨t3, _ | ⟨t4, r⟩⟩⟩⟩⟩ <;> simp [catsB, zipB]

set_option maxHeartbeats 800000 in
theorem isStmt_of (t : Tr) (ihb : ∀ u, u ∈ t.kids → Tests 49 blockB u) : Tests 24 stmtB t := by
 cases t with
 | mk k n s c =>
 intro v w hr
 have hr' := hr
 simp only [Rep] at hr'
 obtain ⟨A, cap, rfl, hf, _⟩ := hr'
 simp only [Tr.kids] at ihb
 obtain ⟨z1, z2, z3, z4, z5, z6⟩ := cats_zip c
 by_cases h40 : k = 40
 ·subst h40; simpa [stmtB, z1, z2, z3, z4, z5, z6] using isStmt_40 n s c A cap w (fun t _ => isPlace_any t) (fun t _ => isExpr_any t) hr
 by_cases h41 : k = 41
 ·subst h41; simpa [stmtB, z1, z2, z3, z4, z5, z6] using isStmt_41 n s c A cap w (fun t _ => isPlace_any t) (fun t _ => isExpr_any t) hr
 by_cases h42 : k = 42
 ·subst h42; simpa [stmtB, z1, z2, z3, z4, z5, z6] using isStmt_42 n s c A cap w (fun t _ => isPlace_any t) (fun t _ => isExpr_any t) hr
 by_cases h56 : k = 56
 ·subst h56; simpa [stmtB, z1, z2, z3, z4, z5, z6] using isStmt_56 n s c A cap w (fun t _ => isPlace_any t) (fun t _ => isExpr_any t) hr
 by_cases h43 : k = 43
 ·subst h43; simpa [stmtB, z1, z2, z3, z4, z5, z6] using isStmt_43 n s c A cap w (fun t _ => isPlace_any t) hr
 by_cases h44 : k = 44
 ·subst h44; simpa [stmtB, z1, z2, z3, z4, z5, z6] using isStmt_44 n s c A cap w (fun t _ => isPlace_any t) hr
 by_cases h45 : k = 45
 ·subst h45; simpa [stmtB, z1, z2, z3, z4, z5, z6] using isStmt_45 n s c A cap w (fun t _ => isPlace_any t) hr
 by_cases h46 : k = 46
 ·subst h46; simpa [stmtB, z1, z2, z3, z4, z5, z6] using isStmt_46 n s c A cap w (fun t _ => isPlace_any t) hr
 by_cases h47 : k = 47
 ·subst h47; simpa [stmtB, z1, z2, z3, z4, z5, z6] using isStmt_47 n s c A cap w (fun t _ => isPlace_any t) hr
 by_cases h48 : k = 48
 ·subst h48; simpa [stmtB, z1, z2, z3, z4, z5, z6] using isStmt_48 n s c A cap w (fun t _ => isPlace_any t) hr
 by_cases h49 : k = 49
 ·subst h49; simpa [stmtB, z1, z2, z3, z4, z5, z6] using isStmt_49 n s c A cap w (fun t _ => isPlace_any t) hr
 by_cases h50 : k = 50
 ·subst h50; simpa [stmtB, catsB_var, Bool.and_assoc] using isStmt_50 n s c A cap w hr
 by_cases h51 : k = 51
 ·subst h51; simpa [stmtB, catsB_var, Bool.and_assoc] using isStmt_51 n s c A cap w hr
 by_cases h52 : k = 52
 ·subst h52; simpa [stmtB, z1, z2, z3, z4, z5, z6] using isStmt_52 n s c A cap w (fun t _ => isExpr_any t) ihb hr
 by_cases h53 : k = 53
 ·subst h53; simpa [stmtB, z1, z2, z3, z4, z5, z6] using isStmt_53 n s c A cap w (fun t _ => isExpr_any t) ihb hr
 by_cases h54 : k = 54
 ·subst h54; simpa [stmtB, z1, z2, z3, z4, z5, z6] using isStmt_54 n s c A cap w (fun t _ => isExpr_any t) ihb hr
 by_cases h55 : k = 55
 ·subst h55; simpa [stmtB, z1, z2, z3, z4, z5, z6] using isStmt_55 n s c A cap w ihb hr
 have hst : stmtB (.mk k n s c) = false := by simp [stmtB, h40, h41, h42, h56, h43, h44, h45, h46, h47, h48, h49, h50, h51, h52, h53, h54, h55]
 rw [hst]
 exact isStmt_other k n s c A cap w (by simp [h40]) (by simp [h41]) (by simp [h42]) (by simp [h56]) (by simp [h43]) (by simp [h44]) (by simp [h45]) (by simp [h46]) (by simp [h47]) (by simp [h48]) (by simp [h49]) (by simp [h50]) (by simp [h51]) (by simp [h52]) (by simp [h53]) (by simp [h54]) (by simp [h55]) hr

theorem isBoth (t : Tr) : Tests 24 stmtB t ∧ Tests 49 blockB t := by
 induction t using Tr.ind with
 | h k n s c ih => exact ⟨isStmt_of _ fun u hu => (ih u hu).2, isBlock_of _ fun u hu => (ih u hu).1⟩
theorem isStmt_any (t : Tr) : Tests 24 stmtB t := (isBoth t).1
theorem isBlock_any (t : Tr) : Tests 49 blockB t := (isBoth t).2

end Go.Proofs.Ytmglacjcefajlaa
