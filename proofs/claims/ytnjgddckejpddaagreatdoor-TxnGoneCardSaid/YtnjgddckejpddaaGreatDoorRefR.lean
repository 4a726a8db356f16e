/-
  The reference's Right: which requests may be.
-/
import Derived.Test.YtnjgddckejpddaaGreatDoorRefW
namespace Go.Proofs.YtnjgddckejpddaaGreatDoor
open Go.RowKit Go.Proofs.YtnjgddckejpddaaGreatDoor.Sep

set_option maxRecDepth 100000 in
theorem r4word_calls (s : ByteArray) (w : World) (hs : s.size ≤ 1099511627776) :
    Calls Tryz.prog 31 #[.string s] w fun e w' => e = .returned (.bool (wordB s)) ∧ w' = w := by
  have HW := hid (r3word_calls s w hs)
  go_enter Tryz.func31, Tryz.ntmps31
  go_wp2_with (go_at_call 48; (with_reducible refine HW.out.mono ?_); rintro e w' ⟨rfl, rfl⟩)
  go_ret
  exact ⟨rfl, rfl⟩

set_option maxRecDepth 100000 in
set_option maxHeartbeats 1000000 in
theorem r9right_calls (r : Req) (w : World) (h1 : r.name.size ≤ 1099511627776) (h2 : r.text.size ≤ 1099511627776) :
    Calls Tryz.prog 18 #[r.val] w fun e w' => e = .returned (.bool (rightB r)) ∧ Below w.heap.size w w' := by
  obtain ⟨kind, name, text, value⟩ := r
  have HB : Hid (∀ (o : Obj) (n : Nat), Below w.heap.size w ((w.alloc o).drewN n)) := fun o n => ((Below.refl _ _).alloc (Nat.le_refl _) _).drewN' n
  dsimp only at h1 h2
  have HW : Hid (∀ W, Calls Tryz.prog 31 #[.string name] W fun e w' => e = .returned (.bool (wordB name)) ∧ w' = W) := fun W => r4word_calls name W h1
  unfold rightB
  dsimp only
  by_cases hk1 : kind < 1
  · have hd := decide_eq_true hk1
    go_enter Tryz.func18, Tryz.ntmps18
    go_wp2
    go_quiet (fail)
    go_wp2
    go_ret
    exact ⟨by simp, HB.out _ _⟩
  by_cases hk7 : 7 < kind
  · have hd := decide_eq_false hk1
    have hd := decide_eq_true hk7
    go_enter Tryz.func18, Tryz.ntmps18
    go_wp2
    go_quiet (fail)
    go_wp2
    go_ret
    exact ⟨by simp, HB.out _ _⟩
  have hd1 := decide_eq_false hk1
  have hd7 := decide_eq_false hk7
  have HQ : Hid (∀ (W : World) (n : Nat), Calls Tryz.prog 31 #[.string name] (W.drewN n) fun e w'' => e = .returned (.bool (wordB name)) ∧ ∃ m, w'' = W.drewN m) := fun W n => Calls.quiet_of_same (HW.out _)
  simp only [hk1, hk7, or_self, if_false]
  clear HW
  by_cases hk : kind = 7
  · subst hk
    simp only [if_true]
    rcases Decidable.em (name = ⟨#[]⟩) with hn | hn
    · subst hn
      have hwd : wordB ⟨#[]⟩ = false := by decide
      rw [hwd] at HQ
      rcases Decidable.em (text.size ≤ 600) with ht6 | ht6
      · rcases Decidable.em (text = ⟨#[]⟩) with ht | ht
        · subst ht
          rcases Decidable.em (value = 0) with hv | hv
          all_goals
            go_enter Tryz.func18, Tryz.ntmps18
            go_wp2
            go_quiet ((go_at_call 31; exact HQ.out _ _))
            go_wp2
            all_goals
              go_ret
              exact ⟨by simp [hv], HB.out _ _⟩
        · have ht2 := str_empty (s := text) fun h => ht (str_nil h)
          rw [decide_eq_false ht]
          clear ht
          go_enter Tryz.func18, Tryz.ntmps18
          go_wp2
          go_quiet ((go_at_call 31; exact HQ.out _ _))
          go_wp2
          all_goals
            go_ret
            exact ⟨by simp, HB.out _ _⟩
      · have ht : text ≠ ⟨#[]⟩ := by rintro rfl; exact ht6 (by decide)
        rw [decide_eq_false ht]
        clear ht
        go_enter Tryz.func18, Tryz.ntmps18
        go_wp2
        go_quiet ((go_at_call 31; exact HQ.out _ _))
        go_wp2
        all_goals
          go_ret
          exact ⟨by simp, HB.out _ _⟩
    · have hn2 := str_empty (s := name) fun h => hn (str_nil h)
      rw [decide_eq_false hn]
      clear hn
      cases hw : wordB name <;> rw [hw] at HQ
      all_goals
        clear hw
        go_enter Tryz.func18, Tryz.ntmps18
        go_wp2
        go_quiet ((go_at_call 31; exact HQ.out _ _))
        go_wp2
        all_goals
          go_ret
          exact ⟨by simp, HB.out _ _⟩
  · have hd := decide_eq_false hk
    simp only [hk, if_false]
    cases hw : wordB name <;> rw [hw] at HQ
    · clear hw
      go_enter Tryz.func18, Tryz.ntmps18
      go_wp2
      go_quiet ((go_at_call 31; exact HQ.out _ _))
      go_wp2
      go_ret
      exact ⟨by simp, HB.out _ _⟩
    clear hw
    rcases Decidable.em (text.size ≤ 600) with ht | ht
    · rcases Decidable.em (text.size = 0) with ht0 | ht0
      · have he := str_nil ht0
        subst he
        rcases Decidable.em (kind = 5) with h5 | h5
        · subst h5
          clear ht ht0 h2 hk hd hd1 hd7
          rcases Decidable.em (-1099511627776 ≤ value) with hv1 | hv1
          rcases Decidable.em (value ≤ 1099511627776) with hv2 | hv2
          all_goals
            try rw [decide_eq_true hv1]
            try rw [decide_eq_false hv1]
            try rw [decide_eq_true hv2]
            try rw [decide_eq_false hv2]
            go_enter Tryz.func18, Tryz.ntmps18
            go_wp2
            go_quiet ((go_at_call 31; exact HQ.out _ _))
            go_wp2
            all_goals
              go_ret
              refine ⟨?_, HB.out _ _⟩
              first | (simp [*]; done) | (simp [*]; decide)
        · have h5' := decide_eq_false h5
          have hrt : (decide (-1099511627776 ≤ value) && decide (value ≤ 1099511627776) && (decide (value = 0) || decide (kind = 5))) = decide (value = 0) := by
            rw [h5', Bool.eq_iff_iff]; simp; omega
          have HRT := hid hrt
          rcases Decidable.em (value = 0) with hv | hv
          all_goals
            try subst hv
            clear hrt ht
            go_enter Tryz.func18, Tryz.ntmps18
            go_wp2
            go_quiet ((go_at_call 31; exact HQ.out _ _))
            go_wp2
            all_goals
              go_ret
              refine ⟨?_, HB.out _ _⟩
              have hrt := HRT.out
              simp_all
      · have ht2 := str_empty ht0
        have hsz : ¬ text.size = 0 := ht0
        rcases Decidable.em (kind = 1 ∨ kind = 3) with hk13 | hk13
        · have h5' : decide (kind = 5) = false := by rw [decide_eq_false_iff_not]; omega
          have hrt : (decide (-1099511627776 ≤ value) && decide (value ≤ 1099511627776) && (decide (value = 0) || decide (kind = 5))) = decide (value = 0) := by
            rw [h5', Bool.eq_iff_iff]; simp; omega
          have HRT := hid hrt
          clear hrt
          rcases hk13 with rfl | rfl
          all_goals
            rcases Decidable.em (value = 0) with hv | hv
            all_goals
              go_enter Tryz.func18, Tryz.ntmps18
              go_wp2
              go_quiet ((go_at_call 31; exact HQ.out _ _))
              go_wp2
              all_goals
                go_ret
                refine ⟨?_, HB.out _ _⟩
                have hrt := HRT.out
                simp_all
        · have hka : ¬ kind = 1 := fun h => hk13 (.inl h)
          have hkb : ¬ kind = 3 := fun h => hk13 (.inr h)
          have e1 : (kind == 1) = false := by simpa using hka
          have e3 : (kind == 3) = false := by simpa using hkb
          have e7 : (kind != 7) = true := by simpa using hk
          have HE : Hid ((decide (kind = 1) = false ∧ decide (kind = 3) = false) ∧ ¬ text.size = 0) := ⟨⟨decide_eq_false hka, decide_eq_false hkb⟩, ht0⟩
          clear hka hkb hk13 ht0 hsz
          go_enter Tryz.func18, Tryz.ntmps18
          go_wp2
          go_quiet ((go_at_call 31; exact HQ.out _ _))
          go_wp2
          all_goals
            go_ret
            exact ⟨by simp only [HE.out.1, decide_eq_false HE.out.2]; simp, HB.out _ _⟩
    · have ht6 := decide_eq_false ht
      go_enter Tryz.func18, Tryz.ntmps18
      go_wp2
      go_quiet ((go_at_call 31; exact HQ.out _ _))
      go_wp2
      all_goals
        go_ret
        exact ⟨by simp [*], HB.out _ _⟩

end Go.Proofs.YtnjgddckejpddaaGreatDoor
