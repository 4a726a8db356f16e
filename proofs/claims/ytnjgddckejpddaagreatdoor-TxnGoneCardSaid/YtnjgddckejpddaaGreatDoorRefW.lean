/-
  The reference's words: letterpressref3.Word, letterpressref4.Word.
-/
import Derived.Test.YtnjgddckejpddaaGreatDoorWork
namespace Go.Proofs.YtnjgddckejpddaaGreatDoor
open Go.RowKit Go.Proofs.YtnjgddckejpddaaGreatDoor.Sep

/-- The reference's loop over a word's bytes, from the i-th on. -/
def wloop : List Nat → Nat → Bool → Bool
  | [], _, d => !d
  | c :: l, i, d => if (!(decide (97 ≤ c) && decide (c ≤ 122)) && decide (c ≠ 95) && (decide (i = 0) || !digitB c)) = true then false else wloop l (i + 1) (if (decide (0 < i) && !digitB c) = true then false else d)

theorem wloop_later : ∀ (l : List Nat) (i : Nat) (d : Bool), 0 < i → wloop l i d = (decide ((l.takeWhile innerB).length = l.length) && !(d && decide ((l.takeWhile digitB).length = l.length)))
  | [], i, d, _ => by simp [wloop]
  | c :: l, i, d, hi => by
    have ih := wloop_later l (i + 1) (if (decide (0 < i) && !digitB c) = true then false else d) (by omega)
    unfold wloop
    rw [ih]
    have h0 : ¬ i = 0 := by omega
    simp only [List.takeWhile_cons]
    have hin : innerB c = (decide (97 ≤ c) && decide (c ≤ 122) || decide (c = 95) || digitB c) := rfl
    cases hd : digitB c <;> cases h1 : decide (97 ≤ c) <;> cases h2 : decide (c ≤ 122) <;> cases h3 : decide (c = 95) <;> simp_all

theorem wloop_word (s : ByteArray) (c : Nat) (r : List Nat) (h : nats s = c :: r) (h2 : s.size ≤ 12) : wloop (nats s) 0 (decide (c = 114) && decide (1 < s.size)) = wordB s := by
  unfold wordB
  have hlen : s.size = r.length + 1 := by rw [← nats_length, h]; rfl
  have hf : frontN innerB s = ((c :: r).takeWhile innerB).length := by unfold frontN; rw [h]
  have hf2 : frontN digitB (tail1 s) = (r.takeWhile digitB).length := by unfold frontN; rw [nats_tail h]
  rw [h]
  dsimp only
  rw [hf, hf2, hlen]
  unfold wloop
  rw [wloop_later _ _ _ (by omega)]
  have hin : innerB c = (decide (97 ≤ c) && decide (c ≤ 122) || decide (c = 95) || digitB c) := rfl
  have hdg : digitB c = (decide (48 ≤ c) && decide (c ≤ 57)) := rfl
  have h12 : r.length + 1 ≤ 12 := by omega
  simp only [List.takeWhile_cons]
  by_cases hc : 97 ≤ c ∧ c ≤ 122
  · have hi : innerB c = true := by rw [hin]; simp [hc]
    have hd : digitB c = false := by rw [hdg]; simp; omega
    rw [hi, hd]
    simp [hc, h12]
    rcases Decidable.em (c = 114) with e | e <;> rcases r with _ | ⟨x, r⟩ <;> simp_all
  · by_cases h95 : c = 95
    · subst h95
      simp [innerB, digitB, h12]
    · rw [if_pos (by simp; omega)]
      cases hd : digitB c
      · have hi : innerB c = false := by rw [hin, hd]; simp; omega
        simp [hi]
      · simp

set_option maxRecDepth 100000 in
set_option maxHeartbeats 800000 in
theorem r3word_calls (s : ByteArray) (w : World) (hs : s.size ≤ 1099511627776) :
    Calls Tryz.prog 48 #[.string s] w fun e w' => e = .returned (.bool (wordB s)) ∧ w = w' := by
  cases hn : nats s with
  | nil =>
    have h0 : s = ⟨#[]⟩ := by
      have : s.data = #[] := by simpa [nats] using hn
      cases s; simp_all
    subst h0
    have hw : wordB ⟨#[]⟩ = false := by decide
    rw [hw]
    go_enter Tryz.func48, Tryz.ntmps48
    go_wp2
    go_ret
    exact ⟨rfl, rfl⟩
  | cons c r =>
    have hlen : s.size = r.length + 1 := by rw [← nats_length, hn]; rfl
    by_cases h12 : s.size ≤ 12
    · have HW := hid (wloop_word s c r hn h12)
      have hi : ∀ W, (Instr.index 9 (.string s) (.int .i64 0)).run Tryz.prog W = .ok (.int .u8 c) W := fun W => index_run Tryz.underlying9 s 0 c (by rw [hn]; rfl) W
      have Hix : Hid (∀ (k x : Nat), (nats s)[k]? = some x → ∀ W, (Instr.index 9 (.string s) (.int .i64 k)).run Tryz.prog W = .ok (.int .u8 x) W) := fun k x h W => index_run Tryz.underlying9 s k x h W
      have Hget : Hid (∀ k, k < s.size → ∃ x, (nats s)[k]? = some x ∧ (nats s).drop k = x :: (nats s).drop (k + 1)) := fun k hk => ⟨(nats s)[k]'(by rw [nats_length]; exact hk), by simp, by rw [List.drop_eq_getElem_cons]⟩
      have Hend : Hid ((nats s).drop s.size = []) := by unfold Hid; rw [← nats_length]; simp
      have hsz : (1 : Int) ≤ s.size := by omega
      have h12i : (s.size : Int) ≤ 12 := by omega
      have h0 : s.size ≠ 0 := by omega
      clear hn hlen hs
      generalize hwb : wordB s = wb at *
      generalize nats s = ns at *
      clear hwb
      have HW' : Hid (∀ d : Bool, d = (decide (c = 114) && decide (1 < s.size)) → wloop (ns.drop 0) 0 d = wb) := fun d hd => by rw [hd, List.drop_zero]; exact HW.out
      clear HW
      rcases Decidable.em (c = 114) with hc | hc
      all_goals
        rcases Decidable.em (1 < s.size) with h1 | h1
        all_goals
          have HD := hid (HW'.out _ rfl)
          simp only [hc, h1, decide_true, decide_false, Bool.and_true, Bool.and_false] at HD
          go_enter Tryz.func48, Tryz.ntmps48
          go_wp2
          clear HW'
          go_loop [3, 4, 5, 6] (fun dg i _ _ => ∃ (k : Nat) (d : Bool), k ≤ s.size ∧ i = .int .i64 k ∧ dg = .bool d ∧ Hid (wloop (ns.drop k) k d = wb)) (fun _ i _ _ => s.size - (intOf i).toNat)
          case atStart =>
            refine ⟨0, _, by omega, rfl, rfl, ?_⟩
            first
              | exact HD
              | (rw [show decide ((1 : Int) < (s.size : Int)) = true by simp; omega]; exact HD)
              | (rw [show decide ((1 : Int) < (s.size : Int)) = false by simp; omega]; exact HD)
          case round =>
            obtain ⟨k, d, hk, rfl, rfl, HL⟩ := hrel
            by_cases hlt : k < s.size
            · obtain ⟨x, hx, hdr⟩ := Hget.out k hlt
              have hi := Hix.out k x hx
              have HX : Hid ((if (!(decide (97 ≤ x) && decide (x ≤ 122)) && decide (x ≠ 95) && (decide (k = 0) || !digitB x)) = true then false else wloop (ns.drop (k + 1)) (k + 1) (if (decide (0 < k) && !digitB x) = true then false else d)) = wb) := by
                have := HL.out; rw [hdr] at this; exact this
              clear HL hdr hx
              go_wp2
              all_goals try simp only [bne_iff_ne, ne_eq, beq_iff_eq, Bool.not_eq_true', decide_eq_false_iff_not, decide_eq_true_eq, bne_eq_false_iff_eq, beq_eq_false_iff_ne, Bool.not_eq_false'] at *
              all_goals
                first
                  | (go_ret
                     have h9 := HX.out
                     rw [if_pos (by simp [digitB]; omega)] at h9
                     exact ⟨by rw [← h9]; rfl, rfl⟩)
                  | (go_round
                     case rel =>
                       refine ⟨k + 1, _, by omega, by go_num, rfl, ?_⟩
                       have h9 := HX.out
                       first
                         | (rw [if_neg (by simp [digitB]; omega), if_neg (by simp [digitB]; omega)] at h9; exact h9)
                         | (rw [if_neg (by simp [digitB]; omega), if_pos (by simp [digitB]; omega)] at h9; exact h9)
                     case measure => simp [intOf]; omega)
            · have hkn : k = s.size := by omega
              have HX : Hid ((!d) = wb) := by have := HL.out; rw [hkn, Hend.out] at this; exact this
              clear HL
              go_wp2
              go_ret
              exact ⟨by rw [← HX.out]; rfl, rfl⟩
    · have hw : wordB s = false := by unfold wordB; rw [hn]; simp; omega
      rw [hw]
      clear hn hw
      go_enter Tryz.func48, Tryz.ntmps48
      go_wp2
      go_ret
      exact ⟨rfl, rfl⟩

end Go.Proofs.YtnjgddckejpddaaGreatDoor
