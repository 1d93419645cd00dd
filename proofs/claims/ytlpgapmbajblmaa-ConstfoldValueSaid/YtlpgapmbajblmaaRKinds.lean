/- Valid statements and blocks of the reference, together. -/
import Derived.Test.YtlpgapmbajblmaaRStmt2
namespace Go.Proofs.Ytlpgapmbajblmaa
open Go.RowKit Go.Shelf

theorem rStmt_gen (sh : ByteArray) (named ok : Bool) (k n : Int) (s : ByteArray) (c : List Tr) (A : Option Addr) (cap : Nat) (w : World)
    (hsh : ∀ W : World, w.heap.size ≤ W.heap.size → Calls Try.prog 108 #[nodeV k n s A c.length cap] W fun e w' => e = .returned (.tuple #[.string sh, .bool named, .bool ok]) ∧ Below W.heap.size W w')
    (hsz : sh.size ≤ 8)
    (hbytes : ∀ (i : Nat) (h : i < sh.size), (sh[i].toNat : Int) = 101 ∨ (sh[i].toNat : Int) = 112 ∨ (sh[i].toNat : Int) = 98 ∨ (sh[i].toNat : Int) = 118)
    (ihb : ∀ t, t ∈ c → Tests 86 blockB t)
    (hr : Rep w w.heap.size (.mk k n s c) (nodeV k n s A c.length cap)) :
    Calls Try.prog 103 #[nodeV k n s A c.length cap] w fun e w' => e = .returned (.bool (genB sh named ok n s c)) ∧ Below w.heap.size w w' := by
  cases ok with
  | false => exact rStmt_ok sh named false k n s c A cap w hsh hsz hr rfl
  | true =>
    cases h2 : (n == 0) with
    | false => exact rStmt_num sh named true k n s c A cap w hsh hsz hr rfl h2
    | true =>
      cases h3 : ((c.length : Int) == (sh.size : Int)) with
      | false => exact rStmt_len sh named true k n s c A cap w hsh hsz hr rfl h2 h3
      | true =>
        cases h4 : (named == !s.toList.isEmpty) with
        | false => exact rStmt_nm sh named true k n s c A cap w hsh hsz hr rfl h2 h3 h4
        | true =>
          cases named with
          | false =>
            have h5 : s.toList.isEmpty = true := by cases he : s.toList.isEmpty <;> simp [he] at h4 ⊢
            exact rStmt_loop0 sh k n s c A cap w hsh hsz hr hbytes ihb h2 h3 h5
          | true =>
            have h5 : s.toList.isEmpty = false := by cases he : s.toList.isEmpty <;> simp [he] at h4 ⊢
            cases h6 : nameB s with
            | false => exact rStmt_name sh true true k n s c A cap w hsh hsz hr rfl h2 h3 rfl h5 h6
            | true => exact rStmt_loop1 sh k n s c A cap w hsh hsz hr hbytes ihb h2 h3 h5 h6

def catN (b : UInt8) : Nat := if b = 101 then 0 else if b = 112 then 1 else if b = 98 then 2 else 3
theorem catC_N (b : UInt8) (t : Tr) : catC (b.toNat : Int) t = (if catN b = 0 then exprB t else if catN b = 1 then placeB t else if catN b = 2 then blockB t else varB t) := by
  have key : ∀ m : Nat, m < 256 → (((b.toNat : Int) = (m : Int)) ↔ b = UInt8.ofNat m) := by
    intro m hm
    constructor
    · intro h
      have : b.toNat = m := by omega
      rw [← this]; simp
    · intro h; subst h
      have : (UInt8.ofNat m).toNat = m := by simp; omega
      omega
  have k1 := key 101 (by omega)
  have k2 := key 112 (by omega)
  have k3 := key 98 (by omega)
  unfold catC catN
  by_cases h1 : b = 101
  · subst h1; rfl
  · have g1 : ¬ (b.toNat : Int) = 101 := fun e => h1 (k1.1 e)
    by_cases h2 : b = 112
    · subst h2; rfl
    · have g2 : ¬ (b.toNat : Int) = 112 := fun e => h2 (k2.1 e)
      by_cases h3 : b = 98
      · subst h3; rfl
      · have g3 : ¬ (b.toNat : Int) = 98 := fun e => h3 (k3.1 e)
        simp [g1, g2, g3, h1, h2, h3]

theorem zipC_cats : ∀ (l : List UInt8) (c : List Tr), (((c.length : Int) == (l.length : Int)) && (List.zipWith (fun (b : UInt8) t => catC (b.toNat : Int) t) l c).all id) = catsB (l.map catN) c
  | [], [] => by simp [catsB]
  | [], t :: r => by
    have : (((t :: r).length : Int) == (([] : List UInt8).length : Int)) = false := by simp; omega
    rw [this]; simp [catsB]
  | b :: l, [] => by
    have : ((([] : List Tr).length : Int) == ((b :: l).length : Int)) = false := by simp; omega
    rw [this]; simp [catsB]
  | b :: l, t :: r => by
    have hl : (((t :: r).length : Int) == ((b :: l).length : Int)) = ((r.length : Int) == (l.length : Int)) := by
      rw [Bool.eq_iff_iff]; simp
    simp only [List.map_cons, catsB, ← zipC_cats l r, hl, List.zipWith_cons_cons, List.all_cons, id, catC_N]
    cases ((r.length : Int) == (l.length : Int)) <;> simp

theorem genB_cats (sh : ByteArray) (named : Bool) (n : Int) (s : ByteArray) (c : List Tr) :
    genB sh named true n s c = ((if named then namedB n s else plainB n s) && catsB (sh.data.toList.map catN) c) := by
  have hz := zipC_cats sh.data.toList c
  have hl : ((sh.data.toList.length : Nat) : Int) = (sh.size : Int) := by simp
  rw [hl] at hz
  rw [← hz]
  unfold genB namedB plainB
  cases named
  · cases (n == 0) <;> cases emptyB s <;> cases ((c.length : Int) == (sh.size : Int)) <;> simp
  · cases hnm : nameB s
    · simp
    · have he : emptyB s = false := by
        unfold emptyB
        have h0 : 0 < s.size := by
          simp only [nameB, Bool.and_eq_true, decide_eq_true_eq] at hnm
          exact hnm.1.1.1.1
        exact (ne_of_pos h0).1
      rw [he]
      cases (n == 0) <;> cases ((c.length : Int) == (sh.size : Int)) <;> simp

theorem vees_list (m : Nat) (h : m ≤ 8) : (ByteArray.extract ⟨#[118, 118, 118, 118, 118, 118, 118, 118]⟩ 0 m).data.toList = List.replicate m 118 := by
  have : m = 0 ∨ m = 1 ∨ m = 2 ∨ m = 3 ∨ m = 4 ∨ m = 5 ∨ m = 6 ∨ m = 7 ∨ m = 8 := by omega
  rcases this with rfl | rfl | rfl | rfl | rfl | rfl | rfl | rfl | rfl <;> decide

theorem bytes_ok {sh : ByteArray} (h : ∀ b, b ∈ sh.data.toList → b = 101 ∨ b = 112 ∨ b = 98 ∨ b = 118) :
    ∀ (i : Nat) (hi : i < sh.size), (sh[i].toNat : Int) = 101 ∨ (sh[i].toNat : Int) = 112 ∨ (sh[i].toNat : Int) = 98 ∨ (sh[i].toNat : Int) = 118 := by
  intro i hi
  have hm : sh[i] ∈ sh.data.toList := by rw [← byte_at sh i hi (by simpa using hi)]; exact List.getElem_mem _
  rcases h _ hm with e | e | e | e <;> rw [e] <;> simp

set_option maxHeartbeats 1600000 in
theorem rStmt_of (t : Tr) (ihb : ∀ u, u ∈ t.kids → Tests 86 blockB u) : Tests 103 stmtB t := by
  cases t with
  | mk k n s c =>
  intro v w hr
  have hr' := hr
  simp only [Rep] at hr'
  obtain ⟨A, cap, rfl, hf, _⟩ := hr'
  simp only [Tr.kids] at ihb
  by_cases h40 : k = 40
  · subst h40
    have h := rStmt_gen ⟨#[112, 101]⟩ false true 40 n s c A cap w (fun W _ => shape_40 n s c A cap W) (by decide) (bytes_ok (by decide)) ihb hr
    rw [genB_cats] at h
    simpa [stmtB, catN] using h
  by_cases h41 : k = 41
  · subst h41
    have h := rStmt_gen ⟨#[112, 101]⟩ false true 41 n s c A cap w (fun W _ => shape_41 n s c A cap W) (by decide) (bytes_ok (by decide)) ihb hr
    rw [genB_cats] at h
    simpa [stmtB, catN] using h
  by_cases h42 : k = 42
  · subst h42
    have h := rStmt_gen ⟨#[112, 101]⟩ false true 42 n s c A cap w (fun W _ => shape_42 n s c A cap W) (by decide) (bytes_ok (by decide)) ihb hr
    rw [genB_cats] at h
    simpa [stmtB, catN] using h
  by_cases h56 : k = 56
  · subst h56
    have h := rStmt_gen ⟨#[112, 101]⟩ false true 56 n s c A cap w (fun W _ => shape_56 n s c A cap W) (by decide) (bytes_ok (by decide)) ihb hr
    rw [genB_cats] at h
    simpa [stmtB, catN] using h
  by_cases h43 : k = 43
  · subst h43
    have h := rStmt_gen ⟨#[112, 112]⟩ false true 43 n s c A cap w (fun W _ => shape_43 n s c A cap W) (by decide) (bytes_ok (by decide)) ihb hr
    rw [genB_cats] at h
    simpa [stmtB, catN] using h
  by_cases h44 : k = 44
  · subst h44
    have h := rStmt_gen ⟨#[112]⟩ true true 44 n s c A cap w (fun W _ => shape_44 n s c A cap W) (by decide) (bytes_ok (by decide)) ihb hr
    rw [genB_cats] at h
    simpa [stmtB, catN] using h
  by_cases h45 : k = 45
  · subst h45
    have h := rStmt_gen ⟨#[112]⟩ true true 45 n s c A cap w (fun W _ => shape_45 n s c A cap W) (by decide) (bytes_ok (by decide)) ihb hr
    rw [genB_cats] at h
    simpa [stmtB, catN] using h
  by_cases h46 : k = 46
  · subst h46
    have h := rStmt_gen ⟨#[112]⟩ false true 46 n s c A cap w (fun W _ => shape_46 n s c A cap W) (by decide) (bytes_ok (by decide)) ihb hr
    rw [genB_cats] at h
    simpa [stmtB, catN] using h
  by_cases h47 : k = 47
  · subst h47
    have h := rStmt_gen ⟨#[112]⟩ false true 47 n s c A cap w (fun W _ => shape_47 n s c A cap W) (by decide) (bytes_ok (by decide)) ihb hr
    rw [genB_cats] at h
    simpa [stmtB, catN] using h
  by_cases h48 : k = 48
  · subst h48
    have h := rStmt_gen ⟨#[112]⟩ false true 48 n s c A cap w (fun W _ => shape_48 n s c A cap W) (by decide) (bytes_ok (by decide)) ihb hr
    rw [genB_cats] at h
    simpa [stmtB, catN] using h
  by_cases h49 : k = 49
  · subst h49
    have h := rStmt_gen ⟨#[112]⟩ false true 49 n s c A cap w (fun W _ => shape_49 n s c A cap W) (by decide) (bytes_ok (by decide)) ihb hr
    rw [genB_cats] at h
    simpa [stmtB, catN] using h
  by_cases h52 : k = 52
  · subst h52
    have h := rStmt_gen ⟨#[101, 98, 98, 101]⟩ false true 52 n s c A cap w (fun W _ => shape_52 n s c A cap W) (by decide) (bytes_ok (by decide)) ihb hr
    rw [genB_cats] at h
    simpa [stmtB, catN] using h
  by_cases h53 : k = 53
  · subst h53
    have h := rStmt_gen ⟨#[101, 98, 98, 101]⟩ false true 53 n s c A cap w (fun W _ => shape_53 n s c A cap W) (by decide) (bytes_ok (by decide)) ihb hr
    rw [genB_cats] at h
    simpa [stmtB, catN] using h
  by_cases h54 : k = 54
  · subst h54
    have h := rStmt_gen ⟨#[101, 98, 101]⟩ true true 54 n s c A cap w (fun W _ => shape_54 n s c A cap W) (by decide) (bytes_ok (by decide)) ihb hr
    rw [genB_cats] at h
    simpa [stmtB, catN] using h
  by_cases h55 : k = 55
  · subst h55
    have h := rStmt_gen ⟨#[98]⟩ true true 55 n s c A cap w (fun W _ => shape_55 n s c A cap W) (by decide) (bytes_ok (by decide)) ihb hr
    rw [genB_cats] at h
    simpa [stmtB, catN] using h
  by_cases h50 : k = 50
  · subst h50
    by_cases h8 : c.length ≤ 8
    · have hv := vees_list c.length h8
      have h := rStmt_gen (ByteArray.extract ⟨#[118, 118, 118, 118, 118, 118, 118, 118]⟩ 0 c.length) true true 50 n s c A cap w (fun W _ => shape_50 n s c A cap W h8) (by simp; omega) (bytes_ok (by rw [hv]; intro b hb; rw [List.eq_of_mem_replicate hb]; simp)) ihb hr
      rw [genB_cats, hv] at h
      have h8' : decide ((c.length : Int) ≤ 8) = true := by simp; omega
      simpa [stmtB, catN, List.map_replicate, h8'] using h
    · have h := rStmt_gen ⟨#[]⟩ true false 50 n s c A cap w (fun W _ => shape_50_big n s c A cap W (by omega)) (by decide) (bytes_ok (by decide)) ihb hr
      have h8' : decide ((c.length : Int) ≤ 8) = false := by simp; omega
      have hg : genB ⟨#[]⟩ true false n s c = false := by simp [genB]
      rw [hg] at h
      simpa [stmtB, h8'] using h
  by_cases h51 : k = 51
  · subst h51
    by_cases h8 : c.length ≤ 8
    · have hv := vees_list c.length h8
      have h := rStmt_gen (ByteArray.extract ⟨#[118, 118, 118, 118, 118, 118, 118, 118]⟩ 0 c.length) true true 51 n s c A cap w (fun W _ => shape_51 n s c A cap W h8) (by simp; omega) (bytes_ok (by rw [hv]; intro b hb; rw [List.eq_of_mem_replicate hb]; simp)) ihb hr
      rw [genB_cats, hv] at h
      have h8' : decide ((c.length : Int) ≤ 8) = true := by simp; omega
      simpa [stmtB, catN, List.map_replicate, h8'] using h
    · have h := rStmt_gen ⟨#[]⟩ true false 51 n s c A cap w (fun W _ => shape_51_big n s c A cap W (by omega)) (by decide) (bytes_ok (by decide)) ihb hr
      have h8' : decide ((c.length : Int) ≤ 8) = false := by simp; omega
      have hg : genB ⟨#[]⟩ true false n s c = false := by simp [genB]
      rw [hg] at h
      simpa [stmtB, h8'] using h
  have hst : stmtB (.mk k n s c) = false := by simp [stmtB, h40, h41, h42, h56, h43, h44, h45, h46, h47, h48, h49, h52, h53, h54, h55, h50, h51]
  have h := rStmt_gen ⟨#[]⟩ false false k n s c A cap w (fun W _ => shape_other k n s c A cap W (by simp [h40]) (by simp [h41]) (by simp [h42]) (by simp [h56]) (by simp [h43]) (by simp [h44]) (by simp [h45]) (by simp [h46]) (by simp [h47]) (by simp [h48]) (by simp [h49]) (by simp [h52]) (by simp [h53]) (by simp [h54]) (by simp [h55]) (by simp [h50]) (by simp [h51])) (by decide) (bytes_ok (by decide)) ihb hr
  have hg : genB ⟨#[]⟩ false false n s c = false := by simp [genB]
  rw [hg] at h
  rw [hst]
  exact h

set_option maxHeartbeats 800000 in
theorem rBlock_of (t : Tr) (ih : ∀ u, u ∈ t.kids → Tests 103 stmtB u) : Tests 86 blockB t := by
  cases t with
  | mk k n s c =>
  intro v w hr
  have hr' := hr
  simp only [Rep] at hr'
  obtain ⟨A, cap, rfl, hf, hrow⟩ := hr'
  simp only [Tr.kids] at ih
  have hl1 := hf.l1
  have hl2 := hf.c1
  have HI := Lib.hid ih
  have HROW := Lib.hid hrow
  clear ih hrow hr
  unfold nodeV
  cases hk : (k == 57)
  · have hk' : (k != 57) = true := by simp [bne, hk]
    go_enter Try.func86, Try.ntmps86
    go_wp2_with fail
    go_ret
    exact ⟨by simp [blockB, hk], (Below.refl _ _).alloc (Nat.le_refl _) _⟩
  have hk' : (k != 57) = false := by simp [bne, hk]
  cases hn : (n == 0)
  · have hn' : (n != 0) = true := by simp [bne, hn]
    go_enter Try.func86, Try.ntmps86
    go_wp2_with fail
    go_ret
    exact ⟨by simp [blockB, plainB, hn], (Below.refl _ _).alloc (Nat.le_refl _) _⟩
  have hn' : (n != 0) = false := by simp [bne, hn]
  cases hs : s.toList.isEmpty
  · go_enter Try.func86, Try.ntmps86
    go_wp2_with fail
    go_ret
    exact ⟨by simp [blockB, plainB, emptyB, hs], (Below.refl _ _).alloc (Nat.le_refl _) _⟩
  have HB := Lib.hid (show blockB (.mk k n s c) = c.all stmtB by simp only [blockB, plainB, emptyB, hk, hn, hs, stmtsB_all]; rfl)
  go_enter Try.func86, Try.ntmps86
  go_wp2_with fail
  go_loopw [3] (fun i wr => ∃ j : Nat, j ≤ c.length ∧ i = .int .i64 j ∧ Hid ((c.take j).all stmtB = true) ∧ Below (w.heap.size + 1) (w.alloc (.cells #[.int .u8 k, .int .i64 n, .string s, .slice A c.length cap] 24)) wr) (fun i _ => c.length - (intOf i).toNat)
  case atStart => exact ⟨0, Nat.zero_le _, rfl, by simp [Hid], Below.refl _ _⟩
  case round =>
    obtain ⟨i, hi, rfl, hall, hbw⟩ := hrel
    have hbb : Below w.heap.size w wr := ((Below.refl _ _).alloc (Nat.le_refl _) _).trans (hbw.mono (by omega))
    obtain ⟨x0, x1, x2, x3⟩ := box_at (by simpa using hbw)
    by_cases hlt : i < c.length
    · obtain ⟨b, off, A', cap', rfl, hbB, h0, h1, h2, h3, hk⟩ := (HROW.out.below hbb).kid i hlt
      have hmem : c[i] ∈ c := List.getElem_mem hlt
      have hws := hbb.size
      have HT := Lib.hid (show (c.take (i + 1)).all stmtB = ((c.take i).all stmtB && stmtB c[i]) by rw [Tr.take_snoc c i hlt, List.all_append]; simp)
      cases hp : stmtB c[i]
      · have HP := Lib.hid hp
        clear hp
        go_wp2_with fail
        refine (HI.out _ hmem _ _ (hk.more hws)).mono ?_
        rw [HP.out]
        rintro e w1 ⟨rfl, hb1⟩
        have hb2 := hbb.trans (hb1.mono hws)
        clear hb1
        go_wp2_with fail
        go_ret
        have hf : c.all stmtB = false := by
          rw [List.all_eq_false]
          exact ⟨_, hmem, by rw [HP.out]; simp⟩
        exact ⟨by simp [HB.out, hf], hb2⟩
      · have HP := Lib.hid hp
        clear hp
        go_wp2_with fail
        refine (HI.out _ hmem _ _ (hk.more hws)).mono ?_
        rw [HP.out]
        rintro e w1 ⟨rfl, hb1⟩
        have hb2 := hbw.trans (hb1.mono (by have := hbw.size; simp at this; omega))
        clear hb1
        go_wp2_with fail
        go_roundw
        case rel => exact ⟨i + 1, by omega, by go_num, by rw [Hid, HT.out, hall.out, HP.out]; rfl, hb2⟩
        case measure => simp [intOf]; omega
    · obtain rfl : i = c.length := by omega
      go_wp2_with fail
      go_ret
      have h := hall.out
      rw [List.take_length] at h
      exact ⟨by simp [HB.out, h], hbb⟩

theorem rBoth (t : Tr) : Tests 103 stmtB t ∧ Tests 86 blockB t := by
  induction t using Tr.ind with
  | h k n s c ih => exact ⟨rStmt_of _ fun u hu => (ih u hu).2, rBlock_of _ fun u hu => (ih u hu).1⟩
theorem rStmt_any (t : Tr) : Tests 103 stmtB t := (rBoth t).1
theorem rBlock_any (t : Tr) : Tests 86 blockB t := (rBoth t).2

end Go.Proofs.Ytlpgapmbajblmaa
