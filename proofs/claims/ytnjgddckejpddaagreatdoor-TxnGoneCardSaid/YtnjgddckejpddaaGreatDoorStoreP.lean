/-
  The store's pins: Pin, Unpin.
-/
import Derived.Test.YtnjgddckejpddaaGreatDoorClone
import Derived.StillTailTactics
import Derived.IntWalk
namespace Go.Proofs.YtnjgddckejpddaaGreatDoor
open Go.RowKit Go.Proofs.YtnjgddckejpddaaGreatDoor.Sep

set_option maxRecDepth 100000 in
set_option maxHeartbeats 400000 in
theorem pin_walk (bs bp : Nat) (now n : Int) (w w' : World) (h0 : w.cell? ⟨bs, 0, none⟩ = some (.map (some bp))) (h2 : w.cell? ⟨bs, 2, none⟩ = some (.int .i64 now))
    (hlk : ∀ k, (Instr.lookup 59 (.map (some bp)) (.int .i64 now) false).run Tryz.prog (w.drewN k) = .ok (.int .i64 n) (w.drewN k)) (hn : -1 ≤ n ∧ n ≤ 1099511627776)
    (hup : (Instr.mapUpdate 59 (.map (some bp)) (.int .i64 now) (.int .i64 (n + 1))).run Tryz.prog w.drew = .ok () w') (h2' : w'.cell? ⟨bs, 2, none⟩ = some (.int .i64 now)) :
    Calls Tryz.prog 38 #[.pointer (some ⟨bs, 0, none⟩)] w fun e w1 => e = .returned (.int .i64 now) ∧ w' = w1 := by
  have hlk' := hlk 1
  rw [← World.drew_is_drewN] at hlk'
  obtain ⟨hn1, hn2⟩ := hn
  clear hlk
  have hwr : IntKind.i64.wrap (n + 1) = n + 1 := IntWalk.i64_in _ (by omega)
  go_enter Tryz.func38, Tryz.ntmps38
  go_wp2
  go_still_tail 10, (by kernel_rfl)
  refine wpList_mapUpdate_run rfl rfl rfl rfl rfl hup ?_
  clear hup hlk' h0 h2 hwr
  go_wp2
  go_ret
  exact ⟨rfl, rfl⟩


/-- The pins, one more. -/
def StoreS.pin (σ : StoreS) : StoreS := { σ with pins := aset (σ.now : Int) ((aget (σ.now : Int) σ.pins).getD 0 + 1) σ.pins }

theorem StoreO.pins_first {bs : Nat} {limit : Int} {now bp : Nat} {pes : Array MapEntry} {pc bk : Nat} {kes : Array MapEntry} {kc : Nat} {rows : RowsT} {R : Hp} :
    StoreO bs limit now bp pes pc bk kes kc rows * R = pts bp (.map pes pc) * (pts bs (.cells #[.map (some bp), .int .i64 limit, .int .i64 now, .map (some bk)] 62 (0, 0)) * (pts bk (.map kes kc) * bigstar rowHp rows * R)) := by
  unfold StoreO; ac_rfl

theorem StoreO.self_first {bs : Nat} {limit : Int} {now bp : Nat} {pes : Array MapEntry} {pc bk : Nat} {kes : Array MapEntry} {kc : Nat} {rows : RowsT} {R : Hp} :
    StoreO bs limit now bp pes pc bk kes kc rows * R = pts bs (.cells #[.map (some bp), .int .i64 limit, .int .i64 now, .map (some bk)] 62 (0, 0)) * (pts bp (.map pes pc) * (pts bk (.map kes kc) * bigstar rowHp rows * R)) := by
  unfold StoreO; ac_rfl

theorem StoreO.keys_first {bs : Nat} {limit : Int} {now bp : Nat} {pes : Array MapEntry} {pc bk : Nat} {kes : Array MapEntry} {kc : Nat} {rows : RowsT} {R : Hp} :
    StoreO bs limit now bp pes pc bk kes kc rows * R = pts bk (.map kes kc) * (pts bs (.cells #[.map (some bp), .int .i64 limit, .int .i64 now, .map (some bk)] 62 (0, 0)) * (pts bp (.map pes pc) * bigstar rowHp rows * R)) := by
  unfold StoreO; ac_rfl

theorem Pin_sat {s : Out} {w : World} {bs : Nat} {σ : StoreS} {R : Hp} (h : Sat s w (StoreAt bs σ * R)) (hn : -1 ≤ (aget (σ.now : Int) σ.pins).getD 0 ∧ (aget (σ.now : Int) σ.pins).getD 0 ≤ 1099511627776) :
    Calls Tryz.prog 38 #[.pointer (some ⟨bs, 0, none⟩)] w fun e w' => e = .returned (.int .i64 σ.now) ∧ Sat s w' (StoreAt bs σ.pin * R) := by
  obtain ⟨bp, pes, pc, bk, kes, kc, rows, h1, h2, h3, h4⟩ := StoreAt.open_ h
  obtain ⟨i, hi, hz⟩ := zero_of P.iInt
  have hself := h4
  rw [StoreO.self_first] at hself
  have hp := h4
  rw [StoreO.pins_first] at hp
  have hlk : ∀ k, (Instr.lookup 59 (.map (some bp)) (.int .i64 σ.now) false).run Tryz.prog (w.drewN k) = .ok (.int .i64 ((aget (σ.now : Int) σ.pins).getD 0)) (w.drewN k) := fun k => by
    have := lookup_run P.ikeys (mt := 59) Tryz.underlying59 hi hz (hp.drewN k).get h1 σ.now
    rw [aget_amap] at this
    cases hx : aget (σ.now : Int) σ.pins <;> (rw [hx] at this; exact this)
  obtain ⟨es', c', hup, hh⟩ := mapUpdate_run P.ikeys (mt := 59) Tryz.underlying59 hp.drew.get h1 σ.now (.int .i64 ((aget (σ.now : Int) σ.pins).getD 0 + 1))
  have hs' := hp.drew.setObj (.map es' c')
  rw [← StoreO.pins_first] at hs'
  have hc := hs'
  rw [StoreO.self_first] at hc
  refine (pin_walk bs bp σ.now _ w _ (hself.cell rfl) (hself.cell rfl) hlk hn hup (hc.cell rfl)).mono ?_
  rintro e w1 ⟨rfl, rfl⟩
  refine ⟨rfl, StoreAt.shut (σ := σ.pin) hs' ?_ h2 h3⟩
  rw [aset_amap] at hh
  exact hh

set_option maxRecDepth 100000 in
set_option maxHeartbeats 400000 in
theorem unpin_keeps (bs bp : Nat) (t n : Int) (w w' : World) (h0 : w.cell? ⟨bs, 0, none⟩ = some (.map (some bp))) (h0' : w'.cell? ⟨bs, 0, none⟩ = some (.map (some bp)))
    (hlk : (Instr.lookup 59 (.map (some bp)) (.int .i64 t) false).run Tryz.prog w = .ok (.int .i64 n) w) (hn : 1 < n) (hn2 : n ≤ 1099511627776)
    (hup : (Instr.mapUpdate 59 (.map (some bp)) (.int .i64 t) (.int .i64 (n - 1))).run Tryz.prog w = .ok () w')
    (hlk' : (Instr.lookup 59 (.map (some bp)) (.int .i64 t) false).run Tryz.prog w' = .ok (.int .i64 (n - 1)) w') :
    Calls Tryz.prog 34 #[.pointer (some ⟨bs, 0, none⟩), .int .i64 t] w fun e w1 => e = .returned (.tuple #[]) ∧ w' = w1 := by
  go_enter Tryz.func34, Tryz.ntmps34
  go_wp2_with (at_mapUpdate; refine wpList_mapUpdate_run rfl rfl rfl rfl rfl hup ?_; clear hup hlk h0)
  go_end0
  exact ⟨rfl, rfl⟩

set_option maxRecDepth 100000 in
set_option maxHeartbeats 400000 in
theorem unpin_drops (bs bp : Nat) (t n : Int) (w w' w2 : World) (h0 : w.cell? ⟨bs, 0, none⟩ = some (.map (some bp))) (h0' : w'.cell? ⟨bs, 0, none⟩ = some (.map (some bp)))
    (hlk : (Instr.lookup 59 (.map (some bp)) (.int .i64 t) false).run Tryz.prog w = .ok (.int .i64 n) w) (hn : n ≤ 1) (hn2 : -1099511627776 ≤ n)
    (hup : (Instr.mapUpdate 59 (.map (some bp)) (.int .i64 t) (.int .i64 (n - 1))).run Tryz.prog w = .ok () w')
    (hlk' : (Instr.lookup 59 (.map (some bp)) (.int .i64 t) false).run Tryz.prog w' = .ok (.int .i64 (n - 1)) w')
    (hdel : (Builtin.delete_ #[59, 3] 0 #[.map (some bp), .int .i64 t]).run Tryz.prog w' = .ok (.tuple #[]) w2) :
    Calls Tryz.prog 34 #[.pointer (some ⟨bs, 0, none⟩), .int .i64 t] w fun e w1 => e = .returned (.tuple #[]) ∧ w2 = w1 := by
  go_enter Tryz.func34, Tryz.ntmps34
  go_wp2_with (first | (at_mapUpdate; refine wpList_mapUpdate_run rfl rfl rfl rfl rfl hup ?_; clear hup hlk h0) | (at_delete; refine wpList_delete_run rfl rfl rfl rfl hdel ?_; clear hdel hlk' h0'))
  go_end0
  exact ⟨rfl, rfl⟩

/-- The pins, one less at a stamp. -/
def StoreS.unpin (σ : StoreS) (t : Int) : StoreS :=
  let n := (aget t σ.pins).getD 0
  { σ with pins := if n ≤ 1 then adel t (aset t (n - 1) σ.pins) else aset t (n - 1) σ.pins }

theorem aget_aset {K V : Type} [DecidableEq K] (k : K) (v : V) : ∀ l : List (K × V), aget k (aset k v l) = some v
  | [] => by simp [aset, aget]
  | (j, u) :: l => by
    unfold aset
    by_cases h : k = j
    · simp [h, aget]
    · simp only [h, if_false, aget, aget_aset k v l]

theorem Unpin_sat {s : Out} {w : World} {bs : Nat} {σ : StoreS} {R : Hp} (h : Sat s w (StoreAt bs σ * R)) (t : Int) (hn : -1099511627776 ≤ (aget t σ.pins).getD 0 ∧ (aget t σ.pins).getD 0 ≤ 1099511627776) :
    Calls Tryz.prog 34 #[.pointer (some ⟨bs, 0, none⟩), .int .i64 t] w fun e w' => e = .returned (.tuple #[]) ∧ Sat s w' (StoreAt bs (σ.unpin t) * R) := by
  obtain ⟨bp, pes, pc, bk, kes, kc, rows, h1, h2, h3, h4⟩ := StoreAt.open_ h
  obtain ⟨i, hi, hz⟩ := zero_of P.iInt
  have hself := h4
  rw [StoreO.self_first] at hself
  have hp := h4
  rw [StoreO.pins_first] at hp
  have hlk : (Instr.lookup 59 (.map (some bp)) (.int .i64 t) false).run Tryz.prog w = .ok (.int .i64 ((aget t σ.pins).getD 0)) w := by
    have := lookup_run P.ikeys (mt := 59) Tryz.underlying59 hi hz hp.get h1 t
    rw [aget_amap] at this
    cases hx : aget t σ.pins <;> (rw [hx] at this; exact this)
  obtain ⟨es', c', hup, hh⟩ := mapUpdate_run P.ikeys (mt := 59) Tryz.underlying59 hp.get h1 t (.int .i64 ((aget t σ.pins).getD 0 - 1))
  have hs' := hp.setObj (.map es' c')
  have hlk' := lookup_run P.ikeys (mt := 59) Tryz.underlying59 hi hz hs'.get hh t
  rw [aget_aset] at hlk'
  rw [aset_amap] at hh
  by_cases hle : (aget t σ.pins).getD 0 ≤ 1
  · obtain ⟨es2, hdel, hh2⟩ := delete_run P.ikeys (mt := 59) (tx := 3) (ty := 0) Tryz.underlying59 hs'.get hh t
    have hs2 := hs'.setObj (.map es2 c')
    rw [← StoreO.pins_first, StoreO.self_first] at hs'
    rw [← StoreO.pins_first] at hs2
    refine (unpin_drops bs bp t _ w _ _ (hself.cell rfl) (hs'.cell rfl) hlk hle hn.1 hup hlk' hdel).mono ?_
    rintro e w1 ⟨rfl, rfl⟩
    refine ⟨rfl, StoreAt.shut (σ := σ.unpin t) hs2 ?_ h2 h3⟩
    rw [adel_amap] at hh2
    simp only [StoreS.unpin, hle, if_true]; exact hh2
  · rw [← StoreO.pins_first] at hs'
    have hc := hs'
    rw [StoreO.self_first] at hc
    refine (unpin_keeps bs bp t _ w _ (hself.cell rfl) (hc.cell rfl) hlk (by omega) hn.2 hup hlk').mono ?_
    rintro e w1 ⟨rfl, rfl⟩
    refine ⟨rfl, StoreAt.shut (σ := σ.unpin t) hs' ?_ h2 h3⟩
    simp only [StoreS.unpin, hle, if_false]; exact hh

end Go.Proofs.YtnjgddckejpddaaGreatDoor
