/-
  A request that is stepped to its end: letterpresslaw10.finish.
-/
import Derived.Test.YtnjgddckejpddaaGreatDoorKnownW
namespace Go.Proofs.YtnjgddckejpddaaGreatDoor
open Go.RowKit Go.Proofs.YtnjgddckejpddaaGreatDoor.Sep

/-- A Step's answer, and what it leaves. -/
abbrev StepTo (tb : Nat) (I J : Hp) (d : DoneS) (b : Bool) : Prop := ∀ s W R', Sat s W (I * R') →
  Calls Tryz.prog 13 #[.pointer (some ⟨tb, 0, none⟩)] W fun e w' => e = .returned (.tuple #[d.val, .bool b]) ∧ Sat s w' (J * R')

set_option maxRecDepth 100000 in
set_option maxHeartbeats 1000000 in
/-- A request's Steps, by what holds ahead of each of them: so many that tell nothing, and one that tells. -/
theorem finish_calls (tb n : Nat) (I : Nat → Hp) (J : Hp) (d : DoneS) (hn : 1 ≤ n) (hn2 : n < 60) (hI : ∀ i, 1 ≤ i → i < n → StepTo tb (I i) (I (i + 1)) (doneE 0) false) (hJ : StepTo tb (I n) J d true) {s : Out} {w : World} {R : Hp} (h : Sat s w (I 1 * R)) :
    Calls Tryz.prog 10 #[.pointer (some ⟨tb, 0, none⟩)] w fun e w' => e = .returned (.int .i64 n) ∧ Sat s w' (J * R) := by
  have H0 := hid h
  have HI := hid hI
  have HJ : Hid (∀ s W R', Sat s W (I n * R') → Calls Tryz.prog 13 #[.pointer (some ⟨tb, 0, none⟩)] W fun e w' => e = .returned (.tuple #[d.val, .bool true]) ∧ Sat s w' (J * R')) := hJ
  clear h hI hJ
  obtain ⟨de, dt, ia, il, ic, da, dl, dc, ds, dw⟩ := d
  go_enter Tryz.func10, Tryz.ntmps10
  go_wp2
  go_loopg [3, 4, 5] 59 (fun m i _ _ wr => ∃ k : Nat, 1 ≤ k ∧ k ≤ n ∧ m = 60 - k ∧ i = .int .i64 k ∧ Hid (Sat s wr (I k * R)))
  case atStart => exact ⟨1, by omega, by omega, rfl, rfl, H0⟩
  case round =>
    obtain ⟨k, hk1, hkn, rfl, rfl, HS⟩ := hrel
    rcases Nat.lt_or_ge k n with hlt | hge
    · have HC := hid (HI.out k hk1 hlt s wr R HS.out)
      clear HS
      go_wp2_with (go_at_call 13; (with_reducible refine HC.out.mono ?_); rintro e w1 ⟨rfl, h1⟩; have H1 := hid (h1.alloc doneO).right; clear h1)
      go_roundg (60 - (k + 1))
      case measure => omega
      case rel => exact ⟨k + 1, by omega, by omega, rfl, by go_num, H1⟩
    · have hkn' : k = n := by omega
      subst hkn'
      have HC := hid (HJ.out s wr R HS.out)
      clear HS
      go_wp2_with (go_at_call 13; (with_reducible refine HC.out.mono ?_); rintro e w1 ⟨rfl, h1⟩; have H1 := hid (h1.alloc (.cells #[.int .i64 de, .string dt, .slice ia il ic, .slice da dl dc, .int .i64 ds, .bool dw] 42 (0, 0))).right; clear h1)
      go_ret
      exact ⟨rfl, H1.out⟩

end Go.Proofs.YtnjgddckejpddaaGreatDoor
