/-
  What the laws use: incr.New, within; the store's Count, Now, Read, told by all that was written.
-/
import Derived.Test.YtnjgddckejpddaaGreatDoorLibS
import Derived.Test.YtnjgddckejpddaaGreatDoorNameL
import Derived.IntWalk
namespace Go.Proofs.YtnjgddckejpddaaGreatDoor
open Go.RowKit Go.Proofs.YtnjgddckejpddaaGreatDoor.Sep

/-- A builder's memory. -/
def BuilderO (bb mb : Nat) (held : Array MapEntry) (hc : Nat) (order : Value) (parsed : Int) : Hp := pts bb (.cells #[.map (some mb), order, .int .i64 parsed] 65 (0, 0)) * pts mb (.map held hc)

set_option maxRecDepth 100000 in
set_option maxHeartbeats 400000 in
theorem incrNew_calls {s : Out} {w : World} {R : Hp} (h : Sat s w R) :
    Calls Tryz.prog 9 #[] w fun e w' => ∃ bb mb, e = .returned (.pointer (some ⟨bb, 0, none⟩)) ∧ Sat s w' (BuilderO bb mb #[] 0 (.slice none 0 0) 0 * R) := by
  have h2 := (h.alloc (.map #[] 0)).alloc (.cells #[.map (some w.heap.size), .slice none 0 0, .int .i64 0] 65)
  have hz : (w.alloc (.map #[] 0)).heap.size = w.heap.size + 1 := by show (w.heap.push _).size = _; simp
  rw [hz] at h2
  have HS := hid h2
  clear hz
  have hmk : ∀ (t : TypeId) (W : World), (Instr.makeMap t none).run Tryz.prog W = .ok (.map (some W.heap.size)) (W.alloc (.map #[] 0)) := fun _ _ => rfl
  clear h h2
  go_enter Tryz.func9, Tryz.ntmps9
  go_wp2
  go_ret
  refine ⟨_, w.heap.size, rfl, ?_⟩
  unfold BuilderO
  rw [show ∀ A B C : Hp, A * B * C = A * (B * C) from Sep.mul_assoc]
  exact HS.out

theorem countB_calls {s : Out} {w : World} {bs : Nat} {A : Abs} {R : Hp} (h : Sat s w (StoreB bs A * R)) (hs : Small A) :
    Calls Tryz.prog 19 #[.pointer (some ⟨bs, 0, none⟩)] w fun e w' => ∃ σ, Rep σ A ∧ e = .returned (.int .i64 σ.count) ∧ Below w.heap.size w w' := by
  obtain ⟨σ, hσ, h⟩ := StoreB.open_ h
  refine (Count_sat h (by have := hσ.cnt; have := hs.c; omega)).mono ?_
  rintro e w' ⟨rfl, hb⟩
  exact ⟨σ, hσ, rfl, hb⟩

theorem nowB_calls {s : Out} {w : World} {bs : Nat} {A : Abs} {R : Hp} (h : Sat s w (StoreB bs A * R)) :
    Calls Tryz.prog 16 #[.pointer (some ⟨bs, 0, none⟩)] w fun e w' => e = .returned (.int .i64 A.now) ∧ w = w' := by
  obtain ⟨σ, hσ, h⟩ := StoreB.open_ h
  refine (Now_sat h).mono ?_
  rintro e w' ⟨rfl, rfl⟩
  exact ⟨by rw [hσ.now], rfl⟩

theorem readB_calls {s : Out} {w : World} {bs : Nat} {A : Abs} {R : Hp} (h : Sat s w (StoreB bs A * R)) (key : ByteArray) {t : Nat} (ht : A.m ≤ t) :
    Calls Tryz.prog 15 #[.pointer (some ⟨bs, 0, none⟩), .string key, .int .i64 t] w fun e w' => e = .returned (.tuple #[.string (A.at_ key t).1, .bool (A.at_ key t).2]) ∧ w = w' := by
  obtain ⟨σ, hσ, h⟩ := StoreB.open_ h
  refine (Read_sat h key t).mono ?_
  rintro e w' ⟨rfl, rfl⟩
  have := hσ.at_ key ht
  unfold StoreS.at_ at this
  rw [← this]
  exact ⟨rfl, rfl⟩

/-- A number from 0 to n - 1. -/
def within (a n : Int) : Int := if a.tmod n < 0 then a.tmod n + n else a.tmod n
theorem within_bd (a : Int) {n : Int} (hn : 0 < n) : 0 ≤ within a n ∧ within a n < n := by
  unfold within
  have h1 := Int.tmod_lt_of_pos a hn
  have h2 : -n < a.tmod n := by
    have := Int.lt_tmod_of_pos a hn
    omega
  split <;> omega

/-- What 'set' writes for an RPut. -/
theorem writesPut_spec (L : LibS) {tb bs bb : Nat} {r : Req} {tries : Nat} {τ : TryS} (hk : r.kind = 1) (hs : (τ.val ⟨#[100]⟩).1.size ≤ 900000) (hn : r.name.size ≤ 100000) :
    WritesSpec tb bs bb r tries τ (SetOk (parts (τ.val ⟨#[100]⟩).1) r.name ⟨#[100]⟩ ⟨#[102]⟩ r.text 8) := fun s W R' h =>
  writes_put L.sp L.so L.co L.ct h hk hs (by omega) (with_bound hs hn)

end Go.Proofs.YtnjgddckejpddaaGreatDoor
