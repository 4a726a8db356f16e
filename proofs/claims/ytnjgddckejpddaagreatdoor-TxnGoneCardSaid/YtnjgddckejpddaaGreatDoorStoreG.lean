/-
  The store's versions that may go.
-/
import Derived.Test.YtnjgddckejpddaaGreatDoorStoreP
namespace Go.Proofs.YtnjgddckejpddaaGreatDoor
open Go.RowKit Go.Proofs.YtnjgddckejpddaaGreatDoor.Sep

/-- How many versions in front are no newer than a stamp. -/
def leadN (l : List Ver) (t : Nat) : Nat := (l.takeWhile fun x => decide (x.stamp ≤ t)).length

theorem leadN_le (t : Nat) : ∀ l : List Ver, leadN l t ≤ l.length
  | [] => by simp [leadN]
  | x :: l => by
    have ih := leadN_le t l
    unfold leadN at ih ⊢
    rw [List.takeWhile_cons]
    split <;> simp <;> omega

theorem leadN_step (t : Nat) : ∀ (l : List Ver) (k : Nat) (x : Ver), k ≤ leadN l t → l[k]? = some x → (x.stamp ≤ t → k + 1 ≤ leadN l t) ∧ (¬ x.stamp ≤ t → leadN l t = k)
  | [], k, x, _, h => by simp at h
  | y :: l, 0, x, _, h => by
    simp at h; subst h
    unfold leadN
    rw [List.takeWhile_cons]
    constructor <;> intro h <;> simp [h]
  | y :: l, k + 1, x, hk, h => by
    simp at h
    unfold leadN at hk ⊢
    rw [List.takeWhile_cons] at hk ⊢
    split at hk
    · rename_i hy
      simp only [List.length_cons] at hk
      obtain ⟨h1, h2⟩ := leadN_step t l k x (by unfold leadN; omega) h
      unfold leadN at h1 h2
      rw [if_pos hy]
      simp only [List.length_cons]
      exact ⟨fun hx => by have := h1 hx; omega, fun hx => by have := h2 hx; omega⟩
    · simp at hk

/-- How many versions may go. -/
def goneN (l : List Ver) (t : Nat) : Nat :=
  if 0 < leadN l t ∧ ((l[leadN l t - 1]?).map (·.gone)).getD true = false then leadN l t - 1 else leadN l t

theorem goneN_le (l : List Ver) (t : Nat) : goneN l t ≤ l.length := by
  have := leadN_le t l
  unfold goneN; split <;> omega

set_option maxRecDepth 100000 in
set_option maxHeartbeats 400000 in
theorem gone_nil (a : Option Addr) (t : Nat) (w : World) :
    Calls Tryz.prog 69 #[.slice a 0 0, .int .i64 t] w fun e w' => e = .returned (.int .i64 0) ∧ w = w' := by
  go_enter Tryz.func69, Tryz.ntmps69
  go_wp2
  go_loop [5] (fun i => i = .int .i64 0) (fun i => 0)
  case atStart => rfl
  case round =>
    subst hrel
    go_wp2
    go_ret
    exact ⟨rfl, rfl⟩

set_option maxRecDepth 100000 in
set_option maxHeartbeats 400000 in
theorem gone_some (g cap t : Nat) (l : List Ver) (w : World) (hn : l.length ≤ 1099511627776) (hc : ∀ i x, l[i]? = some x → w.cell? ⟨g, i * 4 + 2, none⟩ = some (.bool x.gone) ∧ w.cell? ⟨g, i * 4 + 3, none⟩ = some (.int .i64 x.stamp)) :
    Calls Tryz.prog 69 #[.slice (some ⟨g, 0, none⟩) l.length cap, .int .i64 t] w fun e w' => e = .returned (.int .i64 (goneN l t)) ∧ w = w' := by
  have Hle := hid (leadN_le t l)
  have Hstep := hid (leadN_step t l)
  have Hc := hid hc
  clear hc
  have Hg : Hid (∀ n : Nat, leadN l t = n → (goneN l t = if 0 < n ∧ ((l[n - 1]?).map (·.gone)).getD true = false then n - 1 else n)) := by intro n hn; unfold goneN; rw [hn]
  have Hget : Hid (∀ k, k < l.length → ∃ x, l[k]? = some x) := fun k hk => ⟨l[k], by simp [hk]⟩
  generalize hL : l.length = n at *
  have HL := hid hL
  clear hL
  go_enter Tryz.func69, Tryz.ntmps69
  go_wp2
  go_loop [5] (fun i => ∃ k : Nat, k ≤ n ∧ k ≤ leadN l t ∧ i = .int .i64 k) (fun i => n - (intOf i).toNat)
  case atStart => exact ⟨0, by omega, by omega, rfl⟩
  case round =>
    obtain ⟨k, hk, hk2, rfl⟩ := hrel
    by_cases hlt : k < n
    · obtain ⟨x, hx⟩ := Hget.out k hlt
      obtain ⟨h2, h3⟩ := Hc.out k x hx
      obtain ⟨s1, s2⟩ := Hstep.out k x hk2 hx
      by_cases hst : x.stamp ≤ t
      · have S1 := hid (s1 hst)
        clear s1 s2 hx hk2 h2
        generalize x.stamp = st at *
        go_wp2
        go_round
        case rel => exact ⟨k + 1, by omega, S1.out, by go_num⟩
        case measure => simp [intOf]; omega
      · have S2 := hid (Hg.out k (s2 hst))
        clear s1 s2 hx hk2 h2
        generalize x.stamp = st at *
        rcases Nat.eq_zero_or_pos k with h0 | hpos
        · subst h0
          go_wp2
          go_ret
          exact ⟨ret_int (by rw [S2.out]; simp), rfl⟩
        · obtain ⟨y, hy⟩ := Hget.out (k - 1) (by omega)
          obtain ⟨h2, _⟩ := Hc.out (k - 1) y hy
          have S3 : Hid (goneN l t = if y.gone then k else k - 1) := by
            unfold Hid; rw [S2.out, hy]; simp only [Option.map_some, Option.getD_some]
            by_cases hyg : y.gone = true <;> simp [hyg, hpos]
          clear hy
          have hcast : ((k : Int) - 1).toNat = k - 1 := by omega
          cases hg : y.gone
          all_goals
            rw [hg] at h2 S3
            go_wp2
            go_ret
            exact ⟨ret_int (by rw [S3.out]; simp; try omega), rfl⟩
    · have hkn : k = n := by omega
      have S2 : Hid (goneN l t = if 0 < k ∧ ((l[k - 1]?).map (·.gone)).getD true = false then k - 1 else k) := Hg.out k (by have := Hle.out; omega)
      clear hk2
      rcases Nat.eq_zero_or_pos k with h0 | hpos
      · subst h0
        clear hkn
        go_wp2
        go_ret
        exact ⟨ret_int (by rw [S2.out]; simp), rfl⟩
      · obtain ⟨y, hy⟩ := Hget.out (k - 1) (by omega)
        obtain ⟨h2, _⟩ := Hc.out (k - 1) y hy
        have S3 : Hid (goneN l t = if y.gone then k else k - 1) := by
          unfold Hid; rw [S2.out, hy]; simp only [Option.map_some, Option.getD_some]
          by_cases hyg : y.gone = true <;> simp [hyg, hpos]
        clear hy hkn
        have hcast : ((k : Int) - 1).toNat = k - 1 := by omega
        cases hg : y.gone
        all_goals
          rw [hg] at h2 S3
          go_wp2
          go_ret
          exact ⟨ret_int (by rw [S3.out]; simp; try omega), rfl⟩

theorem gone_calls {t : Nat} {v : Value} {l : List Ver} {w : World} (hv : VersAt w v l) (hn : l.length ≤ 1099511627776) :
    Calls Tryz.prog 69 #[v, .int .i64 t] w fun e w' => e = .returned (.int .i64 (goneN l t)) ∧ w = w' := by
  rcases hv with ⟨⟨a, rfl⟩, rfl⟩ | ⟨g, cap, rfl, h1, h2, hc⟩
  · exact gone_nil a t w
  · exact gone_some g cap t l w hn fun i x hx => ⟨(hc i x hx).2.1, (hc i x hx).2.2⟩

end Go.Proofs.YtnjgddckejpddaaGreatDoor
