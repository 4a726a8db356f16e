/-
  A request that may not be is refused at its first Step, and touches nothing: the walk.
-/
import Derived.Test.YtnjgddckejpddaaGreatDoorKnownW
import Derived.Test.YtnjgddckejpddaaGreatDoorRefR
namespace Go.Proofs.YtnjgddckejpddaaGreatDoor
open Go.RowKit Go.Proofs.YtnjgddckejpddaaGreatDoor.Sep

set_option maxRecDepth 100000 in
set_option maxHeartbeats 400000 in
theorem within_calls (a n : Int) (w : World) (hn : 0 < n) (hn2 : n ≤ 4611686018427387904) (_ha : -9223372036854775808 ≤ a ∧ a ≤ 9223372036854775807) :
    Calls Tryz.prog 12 #[.int .i64 a, .int .i64 n] w fun e w' => e = .returned (.int .i64 (within a n)) ∧ w = w' := by
  unfold within
  have h1 := Int.tmod_lt_of_pos a hn
  have h2 : -n < a.tmod n := Int.lt_tmod_of_pos a hn
  have hne : n ≠ 0 := by omega
  have hne1 : n ≠ -1 := by omega
  go_enter Tryz.func12, Tryz.ntmps12
  go_wp2
  all_goals
    go_ret
    exact ⟨rfl, rfl⟩

theorem right_great (r : Req) (k : Int) (h : 9 ≤ k) : rightB { r with kind := k } = false := by
  unfold rightB
  rw [if_pos (.inr (by show 7 < k; omega))]

/-- The rest of the law, from the request that begins on: what it asks of the world. -/
theorem new_count {n : Int} {σ : StoreS} (h : Rep σ (Abs.new n)) : σ.count = 0 := by
  have := h.cnt
  have h2 : (Abs.new n).c = 0 := rfl
  omega

set_option maxRecDepth 100000 in
set_option maxHeartbeats 4000000 in
theorem bad_walk (r : Req) (n : Int) (w : World) (hn : -9223372036854775808 ≤ n ∧ n ≤ 9223372036854775807) (h1 : r.name.size ≤ maxLen) (h2 : r.text.size ≤ maxLen) :
    Calls Tryz.prog 5 #[r.val, .int .i64 n] w fun e w' => e = .returned (.bool true) ∧ Below w.heap.size w w' := by
  obtain ⟨kind, name, text, value⟩ := r
  have h0 := (Sat.old w).alloc (.cells #[.int .i64 kind, .string name, .string text, .int .i64 value] 32 (0, 0))
  have HK := hid (known_calls (w.alloc (.cells #[.int .i64 kind, .string name, .string text, .int .i64 value] 32 (0, 0))))
  have H0 := hid h0
  have HB0 : Hid (∀ w', Below (w.alloc (.cells #[.int .i64 kind, .string name, .string text, .int .i64 value] 32 (0, 0))).heap.size (w.alloc (.cells #[.int .i64 kind, .string name, .string text, .int .i64 value] 32 (0, 0))) w' → Below w.heap.size w w') :=
    fun w' hb => ((Below.refl _ _).alloc (Nat.le_refl _) _).trans (hb.mono (by show w.heap.size ≤ (w.heap.push _).size; simp))
  dsimp only at h1 h2
  have h1' : name.size ≤ 9223372036854775807 := h1
  have h2' : text.size ≤ 9223372036854775807 := h2
  clear h0 h1 h2
  by_cases ht : 700 < text.size
  · go_enter Tryz.func5, Tryz.ntmps5
    go_wp2_with (first
      | (go_at_call 7; (with_reducible refine HK.out.mono ?_); rintro e w1 ⟨rfl, hb1⟩
         have h1 := H0.out.below hb1
         have c1 : w1.cell? ⟨w.heap.size, 1, none⟩ = some (.string name) := h1.cell rfl
         have c2 : w1.cell? ⟨w.heap.size, 2, none⟩ = some (.string text) := h1.cell rfl
         have HB1 := hid (HB0.out _ hb1)
         clear h1 hb1))
    go_ret
    exact ⟨rfl, HB1.out⟩
  by_cases hm : 60 < name.size
  · go_enter Tryz.func5, Tryz.ntmps5
    go_wp2_with (first
      | (go_at_call 7; (with_reducible refine HK.out.mono ?_); rintro e w1 ⟨rfl, hb1⟩
         have h1 := H0.out.below hb1
         have c1 : w1.cell? ⟨w.heap.size, 1, none⟩ = some (.string name) := h1.cell rfl
         have c2 : w1.cell? ⟨w.heap.size, 2, none⟩ = some (.string text) := h1.cell rfl
         have HB1 := hid (HB0.out _ hb1)
         clear h1 hb1))
    go_ret
    exact ⟨rfl, HB1.out⟩
  have HRt : Hid (∀ W, Calls Tryz.prog 18 #[(⟨kind, name, text, value⟩ : Req).val] W fun e w' => e = .returned (.bool (rightB ⟨kind, name, text, value⟩)) ∧ Below W.heap.size W w') := fun W => r9right_calls ⟨kind, name, text, value⟩ W (by show name.size ≤ _; omega) (by show text.size ≤ _; omega)
  have HSm := hid (small_new 100)
  have HWi := hid (fun W => within_calls n 5 W (by decide) (by decide) hn)
  have hwb := within_bd n (n := 5) (by decide)
  generalize hwk : within n 5 = wk at *
  clear hwk
  have HBad : Hid (∀ kind' : Int, rightB ⟨kind', name, text, value⟩ = false → ∀ (s : Out) (w : World) (tb bs bb : Nat) (R : Hp), Sat s w (TxnIdle tb bs bb ⟨kind', name, text, value⟩ 0 false * R) →
      Calls Tryz.prog 13 #[.pointer (some ⟨tb, 0, none⟩)] w fun e w' => e = .returned (.tuple #[(doneE 12).val, .bool true]) ∧ Sat s w' (TxnIdle tb bs bb ⟨kind', name, text, value⟩ 0 true * R)) :=
    fun kind' hr s w tb bs bb R h => Step_bad h hr (by show name.size ≤ _; omega) (by show text.size ≤ _; omega)
  cases hr : rightB ⟨kind, name, text, value⟩
  · rw [hr] at HRt
    have HBr := hid (HBad.out kind hr)
    clear hr HBad
    go_enter Tryz.func5, Tryz.ntmps5
    go_wp2_with (first
      | (go_at_call 7; (with_reducible refine HK.out.mono ?_); rintro e w1 ⟨rfl, hb1⟩
         have h1 := H0.out.below hb1
         have c1 : w1.cell? ⟨w.heap.size, 1, none⟩ = some (.string name) := h1.cell rfl
         have c2 : w1.cell? ⟨w.heap.size, 2, none⟩ = some (.string text) := h1.cell rfl
         have H1 := hid h1
         clear h1 hb1)
      | (go_at_call 8; (with_reducible refine (New_calls 100 H1.out).mono ?_); rintro e w2 ⟨bs, rfl, h2⟩
         have H2 := hid (StoreB.shut (Rep.new 100) h2)
         clear h2)
      | (go_at_call 9; (with_reducible refine (incrNew_calls H2.out).mono ?_); rintro e w3 ⟨bb, mb, rfl, h3⟩
         rw [show ∀ A B C D : Hp, A * (B * (C * D)) = C * (A * (B * D)) from fun A B C D => by ac_rfl] at h3
         have c0 : w3.cell? ⟨w.heap.size, 0, none⟩ = some (.int .i64 kind) := h3.cell rfl
         have c1' : w3.cell? ⟨w.heap.size, 1, none⟩ = some (.string name) := h3.cell rfl
         have c2' : w3.cell? ⟨w.heap.size, 2, none⟩ = some (.string text) := h3.cell rfl
         have c3 : w3.cell? ⟨w.heap.size, 3, none⟩ = some (.int .i64 value) := h3.cell rfl
         have H3 := hid h3
         clear h3)
      | (go_at_call 18; (with_reducible refine (HRt.out _).mono ?_); rintro e w4 ⟨rfl, hb4⟩
         have h4 := H3.out.below hb4
         have e0 : w4.cell? ⟨w.heap.size, 0, none⟩ = some (.int .i64 kind) := h4.cell rfl
         have e1 : w4.cell? ⟨w.heap.size, 1, none⟩ = some (.string name) := h4.cell rfl
         have e2 : w4.cell? ⟨w.heap.size, 2, none⟩ = some (.string text) := h4.cell rfl
         have e3 : w4.cell? ⟨w.heap.size, 3, none⟩ = some (.int .i64 value) := h4.cell rfl
         have H4 := hid h4.right
         clear h4 hb4)
      | (go_at_call 11; (with_reducible refine (Begin_calls bs bb ⟨kind, name, text, value⟩ H4.out).mono ?_); rintro e w5 ⟨tb, rfl, h5⟩
         have H5 := hid h5
         clear h5)
      | (go_at_call 13; (with_reducible refine (HBr.out _ _ _ _ _ _ H5.out).mono ?_); rintro e w6 ⟨rfl, h6⟩
         have h6a := h6.alloc (.cells #[.int .i64 12, .string ⟨#[]⟩, .slice none 0 0, .slice none 0 0, .int .i64 0, .bool false] 42 (0, 0))
         rw [show ∀ A B C : Hp, A * (B * C) = B * (A * C) from fun A B C => by ac_rfl] at h6a
         have H6 := hid h6a
         clear h6 h6a)
      | (go_at_call 13; (with_reducible refine (Step_over H6.out).mono ?_); rintro e w7 ⟨rfl, h7⟩
         have h7a := h7.alloc doneO
         rw [show ∀ A B C D : Hp, A * (B * (C * D)) = C * (A * (B * D)) from fun A B C D => by ac_rfl] at h7a
         have d0 : (w7.alloc doneO).cell? ⟨w6.heap.size, 0, none⟩ = some (.int .i64 12) := h7a.cell rfl
         have d4 : (w7.alloc doneO).cell? ⟨w6.heap.size, 4, none⟩ = some (.int .i64 0) := h7a.cell rfl
         have d5 : (w7.alloc doneO).cell? ⟨w6.heap.size, 5, none⟩ = some (.bool false) := h7a.cell rfl
         have H7 := hid h7a
         clear h7 h7a)
      | (go_at_call 14
         obtain ⟨st, td, gt, h8⟩ := TxnIdle.open_ H7.out.right.right
         (with_reducible refine (Tries_calls h8).mono ?_); rintro e w8 ⟨rfl, rfl⟩
         have H8 := hid h8.right.right
         clear h8)
      | (go_at_call 16; (with_reducible refine (nowB_calls H8.out).mono ?_); rintro e w9 ⟨rfl, rfl⟩)
      | (go_at_call 19; (with_reducible refine (countB_calls H8.out HSm.out).mono ?_); rintro e w10 ⟨σ, hσ, rfl, hb10⟩
         rw [new_count hσ]
         have H10 := hid (H8.out.below hb10)
         clear hb10 hσ))
    go_ret
    exact ⟨rfl, H10.out.right.old_only⟩
  · rw [hr] at HRt
    have HBr := hid (HBad.out (9 + wk) (by unfold rightB; rw [if_pos (.inr (by show 7 < 9 + wk; omega))]))
    clear hr HBad
    go_enter Tryz.func5, Tryz.ntmps5
    go_wp2_with (first
      | (go_at_call 7; (with_reducible refine HK.out.mono ?_); rintro e w1 ⟨rfl, hb1⟩
         have h1 := H0.out.below hb1
         have c1 : w1.cell? ⟨w.heap.size, 1, none⟩ = some (.string name) := h1.cell rfl
         have c2 : w1.cell? ⟨w.heap.size, 2, none⟩ = some (.string text) := h1.cell rfl
         have H1 := hid h1
         clear h1 hb1)
      | (go_at_call 8; (with_reducible refine (New_calls 100 H1.out).mono ?_); rintro e w2 ⟨bs, rfl, h2⟩
         have H2 := hid (StoreB.shut (Rep.new 100) h2)
         clear h2)
      | (go_at_call 9; (with_reducible refine (incrNew_calls H2.out).mono ?_); rintro e w3 ⟨bb, mb, rfl, h3⟩
         rw [show ∀ A B C D : Hp, A * (B * (C * D)) = C * (A * (B * D)) from fun A B C D => by ac_rfl] at h3
         have c0 : w3.cell? ⟨w.heap.size, 0, none⟩ = some (.int .i64 kind) := h3.cell rfl
         have c1' : w3.cell? ⟨w.heap.size, 1, none⟩ = some (.string name) := h3.cell rfl
         have c2' : w3.cell? ⟨w.heap.size, 2, none⟩ = some (.string text) := h3.cell rfl
         have c3 : w3.cell? ⟨w.heap.size, 3, none⟩ = some (.int .i64 value) := h3.cell rfl
         have H3 := hid h3
         clear h3)
      | (go_at_call 18; (with_reducible refine (HRt.out _).mono ?_); rintro e w4 ⟨rfl, hb4⟩
         have h4 := H3.out.below hb4
         have e0 : w4.cell? ⟨w.heap.size, 0, none⟩ = some (.int .i64 kind) := h4.cell rfl
         have e1 : w4.cell? ⟨w.heap.size, 1, none⟩ = some (.string name) := h4.cell rfl
         have e2 : w4.cell? ⟨w.heap.size, 2, none⟩ = some (.string text) := h4.cell rfl
         have e3 : w4.cell? ⟨w.heap.size, 3, none⟩ = some (.int .i64 value) := h4.cell rfl
         have f0 : w4.frozen? ⟨w.heap.size, 0, none⟩ = false := h4.free
         have h4s := h4.setCell (off := 0) (.int .i64 (9 + wk))
         have g0 : (w4.setCell ⟨w.heap.size, 0, none⟩ (.int .i64 (9 + wk))).cell? ⟨w.heap.size, 0, none⟩ = some (.int .i64 (9 + wk)) := h4s.cell rfl
         have g1 : (w4.setCell ⟨w.heap.size, 0, none⟩ (.int .i64 (9 + wk))).cell? ⟨w.heap.size, 1, none⟩ = some (.string name) := h4s.cell rfl
         have g2 : (w4.setCell ⟨w.heap.size, 0, none⟩ (.int .i64 (9 + wk))).cell? ⟨w.heap.size, 2, none⟩ = some (.string text) := h4s.cell rfl
         have g3 : (w4.setCell ⟨w.heap.size, 0, none⟩ (.int .i64 (9 + wk))).cell? ⟨w.heap.size, 3, none⟩ = some (.int .i64 value) := h4s.cell rfl
         have H4 := hid h4s.right
         clear h4 h4s hb4)
      | (go_at_call 12; (with_reducible refine (HWi.out _).mono ?_); rintro e w' ⟨rfl, rfl⟩)
      | (go_at_call 11; (with_reducible refine (Begin_calls bs bb ⟨9 + wk, name, text, value⟩ H4.out).mono ?_); rintro e w5 ⟨tb, rfl, h5⟩
         have H5 := hid h5
         clear h5)
      | (go_at_call 13; (with_reducible refine (HBr.out _ _ _ _ _ _ H5.out).mono ?_); rintro e w6 ⟨rfl, h6⟩
         have h6a := h6.alloc (.cells #[.int .i64 12, .string ⟨#[]⟩, .slice none 0 0, .slice none 0 0, .int .i64 0, .bool false] 42 (0, 0))
         rw [show ∀ A B C : Hp, A * (B * C) = B * (A * C) from fun A B C => by ac_rfl] at h6a
         have H6 := hid h6a
         clear h6 h6a)
      | (go_at_call 13; (with_reducible refine (Step_over H6.out).mono ?_); rintro e w7 ⟨rfl, h7⟩
         have h7a := h7.alloc doneO
         rw [show ∀ A B C D : Hp, A * (B * (C * D)) = C * (A * (B * D)) from fun A B C D => by ac_rfl] at h7a
         have d0 : (w7.alloc doneO).cell? ⟨w6.heap.size, 0, none⟩ = some (.int .i64 12) := h7a.cell rfl
         have d4 : (w7.alloc doneO).cell? ⟨w6.heap.size, 4, none⟩ = some (.int .i64 0) := h7a.cell rfl
         have d5 : (w7.alloc doneO).cell? ⟨w6.heap.size, 5, none⟩ = some (.bool false) := h7a.cell rfl
         have H7 := hid h7a
         clear h7 h7a)
      | (go_at_call 14
         obtain ⟨st, td, gt, h8⟩ := TxnIdle.open_ H7.out.right.right
         (with_reducible refine (Tries_calls h8).mono ?_); rintro e w8 ⟨rfl, rfl⟩
         have H8 := hid h8.right.right
         clear h8)
      | (go_at_call 16; (with_reducible refine (nowB_calls H8.out).mono ?_); rintro e w9 ⟨rfl, rfl⟩)
      | (go_at_call 19; (with_reducible refine (countB_calls H8.out HSm.out).mono ?_); rintro e w10 ⟨σ, hσ, rfl, hb10⟩
         rw [new_count hσ]
         have H10 := hid (H8.out.below hb10)
         clear hb10 hσ))
    go_ret
    exact ⟨rfl, H10.out.right.old_only⟩

end Go.Proofs.YtnjgddckejpddaaGreatDoor
