/- Names, the third part: the reference's In, Kind, Name. -/
import Derived.Test.YtlpgapmbajblmaaName2
import Derived.WalkSmall
namespace Go.Proofs.Ytlpgapmbajblmaa
open Go.RowKit Go.Shelf

def memB (l : List ByteArray) (s : ByteArray) : Bool := l.contains s
theorem contains_iff {l : List ByteArray} {s : ByteArray} : l.contains s = true ↔ s ∈ l := by
  refine ⟨kws_mem, fun h => ?_⟩
  induction h with
  | head r => simp [List.contains_cons, ba_eq.2 rfl]
  | tail x _ ih => simp only [List.contains_cons, ih, Bool.or_true]

theorem toList_beq (a b : ByteArray) : (a.toList == b.toList) = decide (a = b) := by
  rw [ByteArray.toList_eq, ByteArray.toList_eq]
  by_cases h : a = b
  · subst h; simp
  · have : ¬ a.data.toList = b.data.toList := fun e => h (by cases a; cases b; simpa using e)
    have h2 : ¬ a.data = b.data := fun e => this (by rw [e])
    simp [h, h2]

set_option maxHeartbeats 400000 in
theorem in_any (l : List ByteArray) (b : Nat) (s : ByteArray) (cap : Nat) (w : World) (hl : l.length ≤ 9223372036854775807) (hc : ∀ (i : Nat) (h : i < l.length), w.cell? ⟨b, i, none⟩ = some (.string l[i])) :
    Calls Try.prog 84 #[.slice (some ⟨b, 0, none⟩) l.length cap, .string s] w fun e w' => e = .returned (.bool (memB l s)) ∧ w = w' := by
  have HC := Lib.hid hc
  clear hc
  go_enter Try.func84, Try.ntmps84
  go_wp2_with fail
  go_loop [5] (fun i => ∃ k : Nat, k ≤ l.length ∧ i = .int .i64 k ∧ Hid (∀ (j : Nat) (h : j < l.length), j < k → ¬ l[j] = s)) (fun i => l.length - (intOf i).toNat)
  case atStart => exact ⟨0, Nat.zero_le _, rfl, fun j _ h => absurd h (Nat.not_lt_zero _)⟩
  case round =>
    obtain ⟨k, hk, rfl, hall⟩ := hrel
    by_cases hlt : k < l.length
    · have hcell := HC.out k hlt
      by_cases he : l[k] = s
      · have hb : (l[k].toList == s.toList) = true := by rw [toList_beq]; simpa using he
        have HE := Lib.hid he
        clear he
        go_wp2_with fail
        go_ret
        have : memB l s = true := contains_iff.2 (by rw [← HE.out]; exact List.getElem_mem hlt)
        exact ⟨by simp [this], rfl⟩
      · have hb : (l[k].toList == s.toList) = false := by rw [toList_beq]; simpa using he
        have HE := Lib.hid he
        clear he
        go_wp2_with fail
        go_round
        case rel =>
          refine ⟨k + 1, by omega, by go_num, fun j hj hjk => ?_⟩
          by_cases e : j = k
          · subst e; exact HE.out
          · exact hall.out j hj (by omega)
        case measure => simp [intOf]; omega
    · go_wp2_with fail
      go_ret
      have : memB l s = false := by
        cases h : memB l s
        · rfl
        · obtain ⟨j, hj, e⟩ := List.getElem_of_mem (contains_iff.1 h)
          exact absurd e (hall.out j hj (by omega))
      exact ⟨by simp [this], rfl⟩


def sgs : List ByteArray := [⟨#[60, 61, 62]⟩, ⟨#[58, 61]⟩, ⟨#[43, 61]⟩, ⟨#[45, 61]⟩, ⟨#[94, 61]⟩, ⟨#[61, 61]⟩, ⟨#[33, 61]⟩, ⟨#[60, 61]⟩, ⟨#[62, 61]⟩, ⟨#[38, 38]⟩, ⟨#[124, 124]⟩, ⟨#[43]⟩, ⟨#[45]⟩, ⟨#[42]⟩, ⟨#[47]⟩, ⟨#[37]⟩, ⟨#[38]⟩, ⟨#[124]⟩, ⟨#[94]⟩, ⟨#[33]⟩, ⟨#[61]⟩, ⟨#[60]⟩, ⟨#[62]⟩, ⟨#[40]⟩, ⟨#[41]⟩, ⟨#[123]⟩, ⟨#[125]⟩, ⟨#[91]⟩, ⟨#[93]⟩, ⟨#[59]⟩, ⟨#[44]⟩]

theorem keywords_any (w : World) : Calls Try.prog 85 #[] w fun e w' =>
    e = .returned (.slice (some ⟨w.heap.size, 0, none⟩) 23 23) ∧ Below w.heap.size w w' ∧ ∀ (i : Nat) (h : i < kws.length), w'.cell? ⟨w.heap.size, i, none⟩ = some (.string kws[i]) := by
  go_enter Try.func85, Try.ntmps85
  go_wp2_with fail
  go_ret
  refine ⟨rfl, (Below.refl _ _).alloc (Nat.le_refl _) _, fun i h => ?_⟩
  rw [cell_of_row _ _ _ _ _ _ (heap_new w _)]
  show ((kws.map Value.string).toArray)[i]? = _
  rw [List.getElem?_toArray, List.getElem?_map, List.getElem?_eq_getElem h]
  rfl

theorem signs_any (w : World) : Calls Try.prog 102 #[] w fun e w' =>
    e = .returned (.slice (some ⟨w.heap.size, 0, none⟩) 31 31) ∧ Below w.heap.size w w' ∧ ∀ (i : Nat) (h : i < sgs.length), w'.cell? ⟨w.heap.size, i, none⟩ = some (.string sgs[i]) := by
  go_enter Try.func102, Try.ntmps102
  go_wp2_with fail
  go_ret
  refine ⟨rfl, (Below.refl _ _).alloc (Nat.le_refl _) _, fun i h => ?_⟩
  rw [cell_of_row _ _ _ _ _ _ (heap_new w _)]
  show ((sgs.map Value.string).toArray)[i]? = _
  rw [List.getElem?_toArray, List.getElem?_map, List.getElem?_eq_getElem h]
  rfl


def KindPost (s : ByteArray) (w : World) (e : Ending) (w' : World) : Prop :=
  ∃ k : Int, e = .returned (.int .u8 k) ∧ (k == 1) = (decide (0 < s.size) && letB (s[0]!.toNat : Int) && allB ldB s) ∧ Below w.heap.size w w'

def wdB (s : ByteArray) (k : Nat) : Bool := letB (s[0]!.toNat : Int) && (s.data.toList.take k).all fun c => ldB (c.toNat : Int)
theorem wdB_zero (s : ByteArray) (h : 0 < s.size) : wdB s 0 = letB (s[0].toNat : Int) := by simp [wdB, get0 s h]
theorem wdB_succ (s : ByteArray) (k : Nat) (h : k < s.size) : wdB s (k + 1) = (wdB s k && ldB (s[k].toNat : Int)) := by
  have hl : k < s.data.toList.length := by simpa using h
  unfold wdB
  rw [List.take_succ_eq_append_getElem hl, List.all_append, Bool.and_assoc]
  congr 2
  simp [ByteArray.getElem_eq_getElem_data]
theorem wdB_all (s : ByteArray) : wdB s s.size = (letB (s[0]!.toNat : Int) && allB ldB s) := by
  unfold wdB allB
  rw [List.take_of_length_le (by simp)]

set_option maxHeartbeats 1000000 in
theorem kind_any (s : ByteArray) (hs : s.size ≤ 9223372036854775807) (w : World) : Calls Try.prog 83 #[.string s] w (KindPost s w) := by
  by_cases h0 : 0 < s.size
  · obtain ⟨n1, n2⟩ := ne_of_pos h0
    go_enter Try.func83, Try.ntmps83
    go_wp2_with fail
    go_quiet ((go_at_call 100; exact Calls.quiet_of_same ((rletter_any _ _).mono fun _ _ h => ⟨h.1, h.2.symm⟩)))
    have hw0 := below_drewN (Below.refl w.heap.size w) nq
    go_wp2_with fail
    generalize w.drewN nq = w0 at *
    go_loop [3, 4, 5, 6, 7] (fun s3 s4 s5 s6 i => ∃ (k : Nat) (b4 b5 b6 : Bool), k ≤ s.size ∧ i = .int .i64 k ∧ s3 = .bool (wdB s k) ∧ s4 = .bool b4 ∧ s5 = .bool b5 ∧ s6 = .bool b6) (fun _ _ _ _ i => s.size - (intOf i).toNat)
    case atStart => exact ⟨0, _, _, _, Nat.zero_le _, rfl, by rw [wdB_zero s h0], rfl, rfl, rfl⟩
    case round =>
      obtain ⟨k, b4, b5, b6, hk, rfl, rfl, rfl, rfl, rfl⟩ := hrel
      by_cases hlt : k < s.size
      · have HS := Lib.hid (wdB_succ s k hlt)
        cases hwd : wdB s k
        · have HW := Lib.hid hwd
          clear hwd
          cases b4
          · go_wp2_with fail
            all_goals
              go_round
              case rel => exact ⟨k + 1, _, _, _, by omega, by go_num, by rw [HS.out, HW.out]; rfl, rfl, rfl, rfl⟩
              case measure => simp [intOf]; omega
          · go_wp2_with fail
            refine (rdigit_any _ _).mono ?_
            rintro e w' ⟨rfl, rfl⟩
            go_wp2_with fail
            all_goals
              go_round
              case rel => exact ⟨k + 1, _, _, _, by omega, by go_num, by rw [HS.out, HW.out]; rfl, rfl, rfl, rfl⟩
              case measure => simp [intOf]; omega
        · have HW := Lib.hid hwd
          clear hwd
          cases hlet : letB (s[k].toNat : Int)
          · have HL := Lib.hid hlet
            have HNEW := Lib.hid (show wdB s (k + 1) = digB (s[k].toNat : Int) by rw [HS.out, HW.out]; simp [ldB, hlet])
            clear hlet
            cases b4
            · go_wp2_with fail
              refine (rletter_any _ _).mono ?_
              rw [HL.out]
              rintro e w' ⟨rfl, rfl⟩
              go_wp2_with fail
              refine (rdigit_any _ _).mono ?_
              rintro e w' ⟨rfl, rfl⟩
              go_wp2_with fail
              all_goals
                go_round
                case rel => exact ⟨k + 1, _, _, _, by omega, by go_num, by rw [HNEW.out] <;> first | rfl | simp [*], rfl, rfl, rfl⟩
                case measure => simp [intOf]; omega
            · go_wp2_with fail
              refine (rletter_any _ _).mono ?_
              rw [HL.out]
              rintro e w' ⟨rfl, rfl⟩
              go_wp2_with fail
              refine (rdigit_any _ _).mono ?_
              rintro e w' ⟨rfl, rfl⟩
              go_wp2_with fail
              refine (rdigit_any _ _).mono ?_
              rintro e w' ⟨rfl, rfl⟩
              go_wp2_with fail
              all_goals
                go_round
                case rel => exact ⟨k + 1, _, _, _, by omega, by go_num, by rw [HNEW.out] <;> first | rfl | simp [*], rfl, rfl, rfl⟩
                case measure => simp [intOf]; omega
          · have HL := Lib.hid hlet
            have HNEW := Lib.hid (show wdB s (k + 1) = true by rw [HS.out, HW.out]; simp [ldB, hlet])
            clear hlet
            cases b4
            · go_wp2_with fail
              refine (rletter_any _ _).mono ?_
              rw [HL.out]
              rintro e w' ⟨rfl, rfl⟩
              go_wp2_with fail
              all_goals
                go_round
                case rel => exact ⟨k + 1, _, _, _, by omega, by go_num, by rw [HNEW.out] <;> first | rfl | simp [*], rfl, rfl, rfl⟩
                case measure => simp [intOf]; omega
            · go_wp2_with fail
              refine (rletter_any _ _).mono ?_
              rw [HL.out]
              rintro e w' ⟨rfl, rfl⟩
              go_wp2_with fail
              refine (rdigit_any _ _).mono ?_
              rintro e w' ⟨rfl, rfl⟩
              go_wp2_with fail
              all_goals
                go_round
                case rel => exact ⟨k + 1, _, _, _, by omega, by go_num, by rw [HNEW.out] <;> first | rfl | simp [*], rfl, rfl, rfl⟩
                case measure => simp [intOf]; omega
      · obtain rfl : k = s.size := by omega
        cases hwd : wdB s s.size
        · have hall : (decide (0 < s.size) && letB (s[0]!.toNat : Int) && allB ldB s) = false := by
            rw [wdB_all] at hwd; rw [Bool.and_assoc, hwd, Bool.and_false]
          have HA := Lib.hid hall
          clear hall
          cases b4
          · go_wp2_with fail
            refine (signs_any _).mono ?_
            rintro e w' ⟨rfl, hb1, hcells⟩
            have HC := Lib.hid hcells
            clear hcells
            go_wp2_with fail
            refine (in_any sgs _ s 31 _ (by decide) HC.out).mono ?_
            rintro e w'' ⟨rfl, rfl⟩
            have hb2 := hw0.trans (hb1.mono hw0.size)
            clear hb1
            cases hm : memB sgs s
            · cases b5
              · cases b6
                · go_wp2_with fail
                  go_ret
                  exact ⟨0, rfl, HA.out.symm, hb2⟩
                · go_wp2_with fail
                  go_ret
                  exact ⟨5, rfl, HA.out.symm, hb2⟩
              · go_wp2_with fail
                go_ret
                exact ⟨4, rfl, HA.out.symm, hb2⟩
            · go_wp2_with fail
              go_ret
              exact ⟨3, rfl, HA.out.symm, hb2⟩
          · go_wp2_with fail
            go_ret
            exact ⟨2, rfl, HA.out.symm, hw0⟩
        · have hall : (decide (0 < s.size) && letB (s[0]!.toNat : Int) && allB ldB s) = true := by
            rw [wdB_all] at hwd; rw [Bool.and_assoc, hwd]; simp [h0]
          have HA := Lib.hid hall
          clear hall
          go_wp2_with fail
          go_ret
          exact ⟨1, rfl, HA.out.symm, hw0⟩
  · obtain ⟨n1, n2⟩ := nil_of_zero h0
    go_enter Try.func83, Try.ntmps83
    go_wp2_with fail
    go_ret
    exact ⟨0, rfl, by simp [h0], Below.refl _ _⟩

set_option maxHeartbeats 400000 in
theorem rname2_any (s : ByteArray) (hs : s.size ≤ 9223372036854775807) (w : World) :
    Calls Try.prog 71 #[.string s] w fun e w' => e = .returned (.bool (nameB s)) ∧ Below w.heap.size w w' := by
  cases hk : (decide (0 < s.size) && letB (s[0]!.toNat : Int) && allB ldB s)
  · have hn : nameB s = false := by
      simp only [nameB]; revert hk
      cases decide (0 < s.size) <;> cases letB (s[0]!.toNat : Int) <;> cases allB ldB s <;> simp
    have HN := Lib.hid hn
    have HK := Lib.hid hk
    clear hn hk
    go_enter Try.func71, Try.ntmps71
    go_wp2_with fail
    refine (kind_any s hs _).mono ?_
    rintro e w' ⟨k, rfl, hk, hb⟩
    rw [HK.out] at hk
    go_wp2_with fail
    go_ret
    exact ⟨by simp [HN.out], hb⟩
  · by_cases h16 : s.size ≤ 16
    · have hn : nameB s = !memB kws s := by
        simp only [nameB, memB, kwB]; revert hk
        cases decide (0 < s.size) <;> cases letB (s[0]!.toNat : Int) <;> cases allB ldB s <;> simp [h16]
      have HN := Lib.hid hn
      have HK := Lib.hid hk
      clear hn hk
      go_enter Try.func71, Try.ntmps71
      go_wp2_with fail
      refine (kind_any s hs _).mono ?_
      rintro e w' ⟨k, rfl, hk, hb⟩
      rw [HK.out] at hk
      go_wp2_with fail
      refine (keywords_any _).mono ?_
      rintro e w1 ⟨rfl, hb1, hcells⟩
      have HC := Lib.hid hcells
      clear hcells
      have hb2 := hb.trans (hb1.mono hb.size)
      clear hb1
      go_wp2_with fail
      refine (in_any kws _ s 23 _ (by decide) HC.out).mono ?_
      rintro e w2 ⟨rfl, rfl⟩
      go_wp2_with fail
      go_ret
      exact ⟨by simp [HN.out], hb2⟩
    · have hn : nameB s = false := by simp [nameB, h16]
      have HN := Lib.hid hn
      have HK := Lib.hid hk
      clear hn hk
      go_enter Try.func71, Try.ntmps71
      go_wp2_with fail
      refine (kind_any s hs _).mono ?_
      rintro e w' ⟨k, rfl, hk, hb⟩
      rw [HK.out] at hk
      go_wp2_with fail
      go_ret
      exact ⟨by simp [HN.out], hb⟩

theorem rname_any (s : ByteArray) (hs : s.size ≤ 9223372036854775807) (w : World) :
    Calls Try.prog 42 #[.string s] w fun e w' => e = .returned (.bool (nameB s)) ∧ Below w.heap.size w w' := by
  go_enter Try.func42, Try.ntmps42
  go_wp2_with fail
  refine (rname2_any s hs _).mono ?_
  rintro e w' ⟨rfl, hb⟩
  go_wp2_with fail
  go_ret
  exact ⟨rfl, hb⟩

end Go.Proofs.Ytlpgapmbajblmaa
