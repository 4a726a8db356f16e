/-
  The store's functions that only read: newest, Read, Changed.
-/
import Derived.Test.YtnjgddckejpddaaGreatDoorStore
namespace Go.Proofs.YtnjgddckejpddaaGreatDoor
open Go.RowKit Go.Proofs.YtnjgddckejpddaaGreatDoor.Sep

def nwst (st : Nat → Nat) (t : Nat) : Nat → Int
  | 0 => -1
  | n + 1 => if t < st n then nwst st t n else n

theorem nwst_bd (st : Nat → Nat) (t : Nat) : ∀ n, -1 ≤ nwst st t n ∧ nwst st t n < n
  | 0 => by simp [nwst]
  | n + 1 => by
    have := nwst_bd st t n
    unfold nwst
    split <;> omega

def stampAt (l : List Ver) (i : Nat) : Nat := ((l[i]?).map (·.stamp)).getD 0

/-- The place of the newest version that is no newer than t; -1: there is none. -/
def newestI (l : List Ver) (t : Nat) : Int := nwst (stampAt l) t l.length

theorem stampAt_get {l : List Ver} {i : Nat} (h : i < l.length) : ∃ x, l[i]? = some x ∧ stampAt l i = x.stamp := by
  refine ⟨l[i], by simp [h], by simp [stampAt, h]⟩

set_option maxHeartbeats 400000 in
theorem newest_nil (bs bk : Nat) (key : ByteArray) (t : Nat) (a : Option Addr) (w : World) (h3 : w.cell? ⟨bs, 3, none⟩ = some (.map (some bk)))
    (hlk : (Instr.lookup 60 (.map (some bk)) (.string key) false).run Tryz.prog w = .ok (.slice a 0 0) w) :
    Calls Tryz.prog 28 #[.pointer (some ⟨bs, 0, none⟩), .string key, .int .i64 t] w fun e w' => e = .returned (.int .i64 (-1)) ∧ w = w' := by
  go_enter Tryz.func28, Tryz.ntmps28
  go_wp2
  clear h3 hlk
  go_loop [8] (fun i => i = .int .i64 (-1)) (fun i => (intOf i + 1).toNat)
  case atStart => rfl
  case round =>
    subst hrel
    go_wp2
    go_ret
    exact ⟨rfl, rfl⟩

set_option maxHeartbeats 400000 in
theorem newest_some (bs bk g n cap : Nat) (key : ByteArray) (t : Nat) (st : Nat → Nat) (w : World)
   (h3 : w.cell? ⟨bs, 3, none⟩ = some (.map (some bk)))
   (hlk : (Instr.lookup 60 (.map (some bk)) (.string key) false).run Tryz.prog w = .ok (.slice (some ⟨g, 0, none⟩) n cap) w)
   (hn : n ≤ maxLen)
   (hc : ∀ i, i < n → w.cell? ⟨g, i * 4 + 3, none⟩ = some (.int .i64 (st i))) :
    Calls Tryz.prog 28 #[.pointer (some ⟨bs, 0, none⟩), .string key, .int .i64 t] w fun e w' => e = .returned (.int .i64 (nwst st t n)) ∧ w = w' := by
  unfold maxLen at hn
  go_enter Tryz.func28, Tryz.ntmps28
  go_wp2
  clear h3 hlk
  go_loop [8] (fun i => ∃ k : Nat, k ≤ n ∧ nwst st t k = nwst st t n ∧ i = .int .i64 ((k : Int) - 1)) (fun i => (intOf i + 1).toNat)
  case atStart => exact ⟨n, by omega, rfl, rfl⟩
  case round =>
    obtain ⟨k, hk, hk2, rfl⟩ := hrel
    have Hk2 : Hid (nwst st t k = nwst st t n) := hk2
    clear hk2
    by_cases h0 : k = 0
    · subst h0
      go_wp2
      go_ret
      exact ⟨by rw [← Hk2.out]; rfl, rfl⟩
    · have hcell := hc (k-1) (by omega)
      have h0' : ((k : Int) - 1).toNat = k - 1 := by omega
      by_cases hst : t < st (k-1)
      · have Hs : Hid (nwst st t k = nwst st t (k - 1)) := by
          have : k = (k - 1) + 1 := by omega
          rw [this, nwst, if_pos hst]; rfl
        go_wp2
        go_round
        case rel => exact ⟨k - 1, by omega, by rw [← Hs.out]; exact Hk2.out, by congr 1; omega⟩
        case measure => simp [intOf]; omega
      · have Hs : Hid (nwst st t k = ((k - 1 : Nat) : Int)) := by
          have : k = (k - 1) + 1 := by omega
          rw [this, nwst, if_neg hst]; rfl
        go_wp2
        go_ret
        exact ⟨ret_int (by rw [← Hk2.out, Hs.out]; omega), rfl⟩

theorem newest_calls {bs bk : Nat} {key : ByteArray} {t : Nat} {v : Value} {l : List Ver} {w : World} (h3 : w.cell? ⟨bs, 3, none⟩ = some (.map (some bk)))
    (hlk : (Instr.lookup 60 (.map (some bk)) (.string key) false).run Tryz.prog w = .ok v w) (hv : VersAt w v l) :
    Calls Tryz.prog 28 #[.pointer (some ⟨bs, 0, none⟩), .string key, .int .i64 t] w fun e w' => e = .returned (.int .i64 (newestI l t)) ∧ w = w' := by
  rcases hv with ⟨⟨a, rfl⟩, rfl⟩ | ⟨g, cap, rfl, h1, h2, hc⟩
  · exact newest_nil bs bk key t a w h3 hlk
  · refine newest_some bs bk g l.length cap key t (stampAt l) w h3 hlk (by omega) (fun i hi => ?_)
    obtain ⟨x, hx, hs⟩ := stampAt_get hi
    rw [hs]; exact (hc i x hx).2.2

/-- What a key was at a stamp. -/
def readV (l : List Ver) (t : Nat) : Option ByteArray :=
  if newestI l t < 0 then none else (l[(newestI l t).toNat]?).bind fun x => if x.gone then none else some x.val

set_option maxHeartbeats 400000 in
theorem read_neg (bs bk : Nat) (key : ByteArray) (t : Nat) (v : Value) (l : List Ver) (w : World) (h3 : w.cell? ⟨bs, 3, none⟩ = some (.map (some bk)))
    (hlk : (Instr.lookup 60 (.map (some bk)) (.string key) false).run Tryz.prog w = .ok v w) (hv : VersAt w v l) (hneg : newestI l t < 0) :
    Calls Tryz.prog 15 #[.pointer (some ⟨bs, 0, none⟩), .string key, .int .i64 t] w fun e w' => e = .returned (.tuple #[.string ⟨#[]⟩, .bool false]) ∧ w = w' := by
  have HC := fun w hc hl hr => @newest_calls bs bk key t v l w hc hl hr
  generalize newestI l t = r at *
  have H3 := h3
  go_enter Tryz.func15, Tryz.ntmps15
  go_wp2_with (go_at_call 28; refine (HC _ H3 hlk hv).mono ?_; rintro e w' ⟨rfl, rfl⟩)
  go_ret2
  exact ⟨rfl, rfl⟩

set_option maxRecDepth 100000 in
set_option maxHeartbeats 400000 in
theorem read_at (bs bk g n cap i : Nat) (key : ByteArray) (t : Nat) (w : World) (val : ByteArray) (gone : Bool)
    (HC : Hid (Calls Tryz.prog 28 #[.pointer (some ⟨bs, 0, none⟩), .string key, .int .i64 t] w fun e w' => e = .returned (.int .i64 i) ∧ w = w'))
    (h3 : w.cell? ⟨bs, 3, none⟩ = some (.map (some bk)))
    (hlk : (Instr.lookup 60 (.map (some bk)) (.string key) false).run Tryz.prog w = .ok (.slice (some ⟨g, 0, none⟩) n cap) w)
    (hi : i < n) (_hn : n ≤ 9223372036854775807) (hc1 : w.cell? ⟨g, i * 4 + 1, none⟩ = some (.string val)) (hc2 : w.cell? ⟨g, i * 4 + 2, none⟩ = some (.bool gone)) :
    Calls Tryz.prog 15 #[.pointer (some ⟨bs, 0, none⟩), .string key, .int .i64 t] w fun e w' => e = .returned (.tuple #[.string (if gone then ⟨#[]⟩ else val), .bool !gone]) ∧ w = w' := by
  cases gone
  all_goals
    go_enter Tryz.func15, Tryz.ntmps15
    go_wp2_with (go_at_call 28; refine HC.out.mono ?_; rintro e w' ⟨rfl, rfl⟩)
    go_ret2
    exact ⟨rfl, rfl⟩

theorem Read_calls {bs bk : Nat} {key : ByteArray} {t : Nat} {v : Value} {l : List Ver} {w : World} (h3 : w.cell? ⟨bs, 3, none⟩ = some (.map (some bk)))
    (hlk : (Instr.lookup 60 (.map (some bk)) (.string key) false).run Tryz.prog w = .ok v w) (hv : VersAt w v l) :
    Calls Tryz.prog 15 #[.pointer (some ⟨bs, 0, none⟩), .string key, .int .i64 t] w fun e w' =>
      e = .returned (.tuple #[.string ((readV l t).getD ⟨#[]⟩), .bool (readV l t).isSome]) ∧ w = w' := by
  by_cases hneg : newestI l t < 0
  · have : readV l t = none := by unfold readV; rw [if_pos hneg]
    rw [this]
    exact read_neg bs bk key t v l w h3 hlk hv hneg
  · have hnw := newest_calls (t := t) h3 hlk hv
    have hbd := nwst_bd (stampAt l) t l.length
    have hbd' : -1 ≤ newestI l t ∧ newestI l t < l.length := hbd
    rcases hv with ⟨⟨a, rfl⟩, rfl⟩ | ⟨g, cap, rfl, h1, h2, hc⟩
    · exact absurd (by simp [newestI, nwst] : newestI [] t < 0) hneg
    · obtain ⟨i, hi⟩ : ∃ i : Nat, newestI l t = i := ⟨(newestI l t).toNat, by omega⟩
      have hil : i < l.length := by omega
      obtain ⟨x, hx, _⟩ := stampAt_get hil
      have hr : readV l t = if x.gone then none else some x.val := by
        unfold readV; rw [if_neg hneg, hi]; simp [hx]
      rw [hi] at hnw
      unfold maxLen at h2
      have := read_at bs bk g l.length cap i key t w x.val x.gone hnw h3 hlk hil (by omega) (hc i x hx).1 (hc i x hx).2.1
      rw [hr]
      cases hg : x.gone <;> simpa [hg] using this

/-- The same, off the store's memory. -/
theorem Read_sat {s : Out} {w : World} {bs : Nat} {σ : StoreS} {R : Hp} (h : Sat s w (StoreAt bs σ * R)) (key : ByteArray) (t : Nat) :
    Calls Tryz.prog 15 #[.pointer (some ⟨bs, 0, none⟩), .string key, .int .i64 t] w fun e w' =>
      e = .returned (.tuple #[.string ((readV ((aget key σ.keys).getD []) t).getD ⟨#[]⟩), .bool (readV ((aget key σ.keys).getD []) t).isSome]) ∧ w = w' := by
  obtain ⟨bp, pes, pc, bk, kes, kc, rows, h1, h2, h3, h4⟩ := StoreAt.open_ h
  obtain ⟨v, hlk, hv⟩ := StoreO.look h4 h2 key
  rw [← h3] at hv
  unfold StoreO at h4
  simp only [mul_assoc] at h4
  exact Read_calls (h4.cell rfl) hlk hv

end Go.Proofs.YtnjgddckejpddaaGreatDoor
