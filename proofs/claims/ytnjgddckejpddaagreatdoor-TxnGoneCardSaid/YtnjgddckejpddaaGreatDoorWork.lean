/-
  Requests: which may be.
-/
import Derived.Test.YtnjgddckejpddaaGreatDoorLine
import Derived.Laws.StructEq
namespace Go.Proofs.YtnjgddckejpddaaGreatDoor
open Go.RowKit Go.Proofs.YtnjgddckejpddaaGreatDoor.Sep

structure Req where
  kind : Int
  name : ByteArray
  text : ByteArray
  value : Int
  deriving DecidableEq

def Req.cells (r : Req) : List Value := [.int .i64 r.kind, .string r.name, .string r.text, .int .i64 r.value]
abbrev Req.val (r : Req) : Value := .agg #[.int .i64 r.kind, .string r.name, .string r.text, .int .i64 r.value]

/-- May a request be? -/
def rightB (r : Req) : Bool :=
  if r.kind < 1 ∨ 7 < r.kind then false
  else if r.kind = 7 then decide (r.name = ⟨#[]⟩) && decide (r.text = ⟨#[]⟩) && decide (r.value = 0)
  else wordB r.name && decide (r.text.size ≤ 600) && (decide (r.text.size = 0) || decide (r.kind = 1) || decide (r.kind = 3)) &&
    decide (-1099511627776 ≤ r.value) && decide (r.value ≤ 1099511627776) && (decide (r.value = 0) || decide (r.kind = 5))

set_option maxHeartbeats 400000 in
theorem writes_calls (k : Int) (w : World) : Calls Tryz.prog 36 #[.int .i64 k] w fun e w' => e = .returned (.bool (decide (k = 1) || decide (k = 3))) ∧ w = w' := by
  go_enter Tryz.func36, Tryz.ntmps36
  go_wp2
  all_goals
    go_ret
    refine ⟨?_, rfl⟩
    refine congrArg (fun b => Ending.returned (.bool b)) ?_
    rw [Bool.eq_iff_iff]
    simp [*]

set_option maxHeartbeats 400000 in
theorem defines_calls (k : Int) (w : World) : Calls Tryz.prog 37 #[.int .i64 k] w fun e w' => e = .returned (.bool (decide (k = 5))) ∧ w = w' := by
  go_enter Tryz.func37, Tryz.ntmps37
  go_wp2
  all_goals
    go_ret
    refine ⟨?_, rfl⟩
    refine congrArg (fun b => Ending.returned (.bool b)) ?_
    rw [Bool.eq_iff_iff]
    simp [*]

set_option maxRecDepth 100000 in
set_option maxHeartbeats 800000 in
theorem right_calls (r : Req) (w : World) (h1 : r.name.size ≤ 1099511627776) (h2 : r.text.size ≤ 1099511627776) :
    Calls Tryz.prog 23 #[r.val] w fun e w' => e = .returned (.bool (rightB r)) ∧ Below w.heap.size w w' := by
  obtain ⟨kind, name, text, value⟩ := r
  have HB : Hid (∀ o : Obj, Below w.heap.size w (w.alloc o)) := fun o => (Below.refl _ _).alloc (Nat.le_refl _) _
  have HW := hid (word_calls name (w.alloc (.cells #[.int .i64 kind, .string name, .string text, .int .i64 value] 32)) h1)
  have HK := hid (writes_calls kind (w.alloc (.cells #[.int .i64 kind, .string name, .string text, .int .i64 value] 32)))
  have HD := hid (defines_calls kind (w.alloc (.cells #[.int .i64 kind, .string name, .string text, .int .i64 value] 32)))
  unfold rightB
  dsimp only at h1 h2 ⊢
  by_cases hk1 : kind < 1
  · go_enter Tryz.func23, Tryz.ntmps23
    go_wp2
    go_ret
    exact ⟨by simp, HB.out _⟩
  by_cases hk7 : 7 < kind
  · go_enter Tryz.func23, Tryz.ntmps23
    go_wp2
    go_ret
    exact ⟨by simp, HB.out _⟩
  by_cases hk : kind = 7
  · subst hk
    rcases Decidable.em (name = ⟨#[]⟩) with hn | hn
    · subst hn
      rcases Decidable.em (text = ⟨#[]⟩) with ht | ht
      · subst ht
        rcases Decidable.em (value = 0) with hv | hv
        all_goals
          go_enter Tryz.func23, Tryz.ntmps23
          go_wp2
          all_goals
            go_ret
            exact ⟨by simp, HB.out _⟩
      · have ht2 := str_empty (s := text) fun h => ht (str_nil h)
        rw [decide_eq_false ht]
        clear ht
        go_enter Tryz.func23, Tryz.ntmps23
        go_wp2
        all_goals
          go_ret
          exact ⟨by simp, HB.out _⟩
    · have hn2 := str_empty (s := name) fun h => hn (str_nil h)
      rw [decide_eq_false hn]
      clear hn
      go_enter Tryz.func23, Tryz.ntmps23
      go_wp2
      all_goals
        go_ret
        exact ⟨by simp, HB.out _⟩
  · simp only [hk1, hk7, hk, or_self, if_false]
    cases hw : wordB name <;> rw [hw] at HW
    · go_enter Tryz.func23, Tryz.ntmps23
      go_wp2_with (go_at_call 35; (with_reducible refine HW.out.mono ?_); rintro e w' ⟨rfl, rfl⟩)
      go_ret
      exact ⟨by simp, HB.out _⟩
    rcases Decidable.em (text.size ≤ 600) with ht | ht
    · rcases Decidable.em (text.size = 0) with ht0 | ht0
      · have he := str_nil ht0
        subst he
        rcases Decidable.em (-1099511627776 ≤ value) with hv1 | hv1
        rcases Decidable.em (value ≤ 1099511627776) with hv2 | hv2
        rcases Decidable.em (value = 0) with hv3 | hv3
        all_goals
          try rw [decide_eq_true hv1]
          try rw [decide_eq_false hv1]
          try rw [decide_eq_true hv2]
          try rw [decide_eq_false hv2]
          try rw [decide_eq_true hv3]
          try rw [decide_eq_false hv3]
          try subst hv3
          go_enter Tryz.func23, Tryz.ntmps23
          go_wp2_with (first
          | (go_at_call 35; (with_reducible refine HW.out.mono ?_); rintro e w' ⟨rfl, rfl⟩)
          | (go_at_call 36; (with_reducible refine HK.out.mono ?_); rintro e w' ⟨rfl, rfl⟩)
          | (go_at_call 37; (with_reducible refine HD.out.mono ?_); rintro e w' ⟨rfl, rfl⟩))
          all_goals
            go_ret
            refine ⟨?_, HB.out _⟩
            first | (simp [*]; done) | (simp_all; done)
      · have ht2 := str_empty ht0
        rcases Decidable.em (kind = 1 ∨ kind = 3) with hk13 | hk13
        · rcases hk13 with rfl | rfl
          all_goals
            rcases Decidable.em (-1099511627776 ≤ value) with hv1 | hv1
            rcases Decidable.em (value ≤ 1099511627776) with hv2 | hv2
            rcases Decidable.em (value = 0) with hv3 | hv3
            all_goals
              try rw [decide_eq_true hv1]
              try rw [decide_eq_false hv1]
              try rw [decide_eq_true hv2]
              try rw [decide_eq_false hv2]
              try rw [decide_eq_true hv3]
              try rw [decide_eq_false hv3]
              try subst hv3
              go_enter Tryz.func23, Tryz.ntmps23
              go_wp2_with (first
              | (go_at_call 35; (with_reducible refine HW.out.mono ?_); rintro e w' ⟨rfl, rfl⟩)
              | (go_at_call 36; (with_reducible refine HK.out.mono ?_); rintro e w' ⟨rfl, rfl⟩)
              | (go_at_call 37; (with_reducible refine HD.out.mono ?_); rintro e w' ⟨rfl, rfl⟩))
              all_goals
                go_ret
                refine ⟨?_, HB.out _⟩
                first | (simp [*]; done) | (simp_all; done)
        · have hk13a : (decide (kind = 1) || decide (kind = 3)) = false := by simpa using hk13
          rw [hk13a] at HK
          all_goals
            go_enter Tryz.func23, Tryz.ntmps23
            go_wp2_with (first
            | (go_at_call 35; (with_reducible refine HW.out.mono ?_); rintro e w' ⟨rfl, rfl⟩)
            | (go_at_call 36; (with_reducible refine HK.out.mono ?_); rintro e w' ⟨rfl, rfl⟩)
            | (go_at_call 37; (with_reducible refine HD.out.mono ?_); rintro e w' ⟨rfl, rfl⟩))
            all_goals
              go_ret
              refine ⟨?_, HB.out _⟩
              first | (simp [*]; done) | (simp_all; done)
    · go_enter Tryz.func23, Tryz.ntmps23
      go_wp2_with (go_at_call 35; (with_reducible refine HW.out.mono ?_); rintro e w' ⟨rfl, rfl⟩)
      all_goals
        go_ret
        exact ⟨by simp, HB.out _⟩
end Go.Proofs.YtnjgddckejpddaaGreatDoor
