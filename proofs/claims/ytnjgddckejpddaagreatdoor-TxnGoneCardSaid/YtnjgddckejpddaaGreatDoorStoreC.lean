/-
  The store's counts: length, total, Count; the least stamp that is pinned; Now.
-/
import Derived.Test.YtnjgddckejpddaaGreatDoorStoreR
import Derived.Test.YtnjgddckejpddaaGreatDoorIter
import Derived.Deep.LoopGhost
namespace Go.Proofs.YtnjgddckejpddaaGreatDoor
open Go.RowKit Go.Proofs.YtnjgddckejpddaaGreatDoor.Sep

set_option maxHeartbeats 400000 in
theorem length_calls (a : Option Addr) (n cap : Nat) (w : World) (hn : n ≤ maxLen) :
    Calls Tryz.prog 33 #[.slice a n cap] w fun e w' => e = .returned (.int .i64 n) ∧ w = w' := by
  have hn2 : n ≤ 9223372036854775807 := hn
  clear hn
  go_enter Tryz.func33, Tryz.ntmps33
  go_wp2
  go_ret
  exact ⟨rfl, rfl⟩

/-- How many elements the slices of some pairs have together. -/
def lenSum (f : Value → Nat) (l : List MapEntry) : Nat := (l.map fun e => f e.val).sum

def sliceLen : Value → Nat
  | .slice _ n _ => n
  | _ => 0

set_option maxHeartbeats 400000 in
theorem total_calls (bs bk : Nat) (kes : Array MapEntry) (kc : Nat) (l : List (ByteArray × Value)) (w : World) (h3 : w.cell? ⟨bs, 3, none⟩ = some (.map (some bk)))
    (hb : w.heap[bk]? = some (.map kes kc)) (hh : Holds .string kes kc l) (hv : ∀ p ∈ l, ∃ a n c, p.2 = .slice a n c ∧ n ≤ maxLen) (hsum : lenSum sliceLen kes.toList ≤ 1099511627776) :
    Calls Tryz.prog 32 #[.pointer (some ⟨bs, 0, none⟩), .func (.func 33) #[] #[]] w fun e w' => e = .returned (.int .i64 (lenSum sliceLen kes.toList)) ∧ Below w.heap.size w w' := by
  have hlt : bk < w.heap.size := by
    rcases Nat.lt_or_ge bk w.heap.size with h' | h'
    · exact h'
    · simp [Array.getElem?_eq_none h'] at hb
  have hr := range_run Tryz.underlying60 hb
  have HB := hid hb
  have HS : Hid (lenSum sliceLen kes.toList ≤ 1099511627776) := hsum
  have HH : Hid (Holds .string kes kc l) := hh
  have HV : Hid (∀ p ∈ l, ∃ a n c, p.2 = .slice a n c ∧ n ≤ maxLen) := hv
  clear hb hsum hh hv
  go_enter Tryz.func32, Tryz.ntmps32
  go_wp2
  clear h3 hr
  have Hb0 : Hid (Below w.heap.size w (w.alloc (.mapIter (some bk) kc #[] kc))) := (Below.refl _ _).alloc (Nat.le_refl _) _
  have Hi0 : Hid ((w.alloc (.mapIter (some bk) kc #[] kc)).heap[w.heap.size]? = some (.mapIter (some bk) kc #[] kc)) := by show (w.heap.push _)[w.heap.size]? = _; simp
  generalize hw0 : w.alloc (.mapIter (some bk) kc #[] kc) = w0 at *
  clear hw0
  go_loopg [5, 7] kes.toList.length (fun m n _ wr => ∃ (seen : Array Nat) (left : List MapEntry) (k : Nat), m = left.length ∧ n = .int .i64 k ∧ Ranging .string kes kc l seen left ∧
      k + lenSum sliceLen left = lenSum sliceLen kes.toList ∧ wr.heap[w.heap.size]? = some (.mapIter (some bk) kc seen kc) ∧ Below w.heap.size w wr)
  case atStart => exact ⟨#[], kes.toList, 0, rfl, rfl, Ranging.start HH.out, by omega, Hi0.out, Hb0.out⟩
  case round =>
    obtain ⟨seen, left, k, rfl, rfl, hrg, hk, hit, hbl⟩ := hrel
    have hbk : wr.heap[bk]? = some (.map kes kc) := by rw [hbl.block bk hlt]; exact HB.out
    have hsat := Sat.two (by omega) hit hbk
    have HK : Hid (k + lenSum sliceLen left = lenSum sliceLen kes.toList) := hk
    have hle := HS.out
    have hkb : k ≤ 1099511627776 := by omega
    clear hk hle hit hbk
    rcases next_cases (P := Tryz.prog) hrg hsat 0 with ⟨hl, n, hrun⟩ | ⟨e, left', w', hperm, hrg', hrun, hsat', hsz, hbl', hent⟩
    · subst hl
      clear hrg hsat
      go_wp2
      go_ret
      exact ⟨ret_int (by have := HK.out; simp [lenSum] at this; rw [lenSum]; omega), hbl.drewN' n⟩
    · obtain ⟨_, p, hp, hkey, hval⟩ := hrg.mem (e := e) (hperm.mem_iff.2 (by simp))
      obtain ⟨a, m, c, hpv, hm⟩ := HV.out p hp
      rw [hpv] at hval
      have hst : lenSum sliceLen left = m + lenSum sliceLen left' := by
        unfold lenSum
        rw [(hperm.map (fun e => sliceLen e.val)).sum_nat, List.map_cons, List.sum_cons, hval]; rfl
      have HK2 : Hid (k + m + lenSum sliceLen left' = lenSum sliceLen kes.toList) := by
        have := HK.out; unfold Hid; omega
      have hkm : k + m ≤ 1099511627776 := by have := HK2.out; have := HS.out; omega
      have hll : left.length = left'.length + 1 := by simpa using hperm.length_eq
      have hit' := hsat'.get
      have hbl2 := hbl.trans (hbl' _ (Nat.le_refl _))
      rw [hval] at hrun hent
      have HI : Hid (w'.heap[w.heap.size]? = some (.mapIter (some bk) kc (seen.push e.born) kc)) := hit'
      have HR := hid hrg'
      have HL : Hid (left.length = left'.length + 1) := hll
      clear hrg hsat hsat' hit' hst hll hperm hpv hval hp hkey hrg' hsz hbl' HK
      generalize hq : lenSum sliceLen left' = q at *
      have HQ := hid hq
      clear hq
      go_wp2_with (go_at_call 33; refine (length_calls a m c _ hm).mono ?_; rintro e w' ⟨rfl, rfl⟩)
      go_roundg left'.length
      case measure => have := HL.out; omega
      case rel => exact ⟨_, left', k + m, rfl, by go_num, HR.out, by rw [HQ.out]; exact HK2.out, HI.out, hbl2⟩

set_option maxHeartbeats 400000 in
theorem count_calls (bs bk : Nat) (kes : Array MapEntry) (kc : Nat) (l : List (ByteArray × Value)) (w : World) (h3 : w.cell? ⟨bs, 3, none⟩ = some (.map (some bk)))
    (hb : w.heap[bk]? = some (.map kes kc)) (hh : Holds .string kes kc l) (hv : ∀ p ∈ l, ∃ a n c, p.2 = .slice a n c ∧ n ≤ maxLen) (hsum : lenSum sliceLen kes.toList ≤ 1099511627776) :
    Calls Tryz.prog 19 #[.pointer (some ⟨bs, 0, none⟩)] w fun e w' => e = .returned (.int .i64 (lenSum sliceLen kes.toList)) ∧ Below w.heap.size w w' := by
  have HT := hid (total_calls bs bk kes kc l w h3 hb hh hv hsum)
  clear h3 hb hh hv hsum
  generalize lenSum sliceLen kes.toList = q at *
  go_enter Tryz.func19, Tryz.ntmps19
  go_wp2_with (go_at_call 32; refine HT.out.mono ?_; rintro e w' ⟨rfl, hb⟩)
  go_ret
  exact ⟨rfl, hb⟩

theorem bigstar_mem {α : Type} {f : α → Hp} {s : Out} {w : World} {x : α} : ∀ {l : List α} {R : Hp}, x ∈ l → Sat s w (bigstar f l * R) → ∃ R', Sat s w (f x * R')
  | a :: l, R, hm, h => by
    simp only [bigstar] at h
    rcases List.mem_cons.1 hm with rfl | hm
    · exact ⟨_, by rw [mul_assoc] at h; exact h⟩
    · rw [show f a * bigstar f l * R = bigstar f l * (f a * R) by ac_rfl] at h
      exact bigstar_mem hm h

/-- How many versions there are. -/
def StoreS.count (σ : StoreS) : Nat := (σ.keys.map fun p => p.2.length).sum

theorem lenSum_of {kes : Array MapEntry} {kc : Nat} {rows : RowsT} (h2 : Holds .string kes kc (amap (fun r : Value × List Ver => r.1) rows)) (hr : ∀ p ∈ rows, sliceLen p.2.1 = p.2.2.length) :
    lenSum sliceLen kes.toList = ((amap (fun r : Value × List Ver => r.2) rows).map fun p => p.2.length).sum := by
  have h := congrArg (List.map fun p : Value × Value => sliceLen p.2) h2.kv
  simp only [List.map_map] at h
  unfold lenSum
  rw [show (fun e : MapEntry => sliceLen e.val) = (fun p : Value × Value => sliceLen p.2) ∘ fun e : MapEntry => (e.key, e.val) from rfl, h]
  simp only [amap, List.map_map]
  congr 1
  exact List.map_congr_left fun p hp => hr p hp

theorem rows_len {s : Out} {w : World} {rows : RowsT} {R : Hp} (h : Sat s w (bigstar rowHp rows * R)) : ∀ p ∈ rows, ∃ a c, p.2.1 = .slice a p.2.2.length c ∧ p.2.2.length ≤ maxLen := by
  intro p hp
  obtain ⟨R', h'⟩ := bigstar_mem hp h
  obtain ⟨_, hm, a, cap, hv, _⟩ := Row.len h'
  exact ⟨a, cap, hv, hm⟩

theorem Count_sat {s : Out} {w : World} {bs : Nat} {σ : StoreS} {R : Hp} (h : Sat s w (StoreAt bs σ * R)) (hc : σ.count ≤ 1099511627776) :
    Calls Tryz.prog 19 #[.pointer (some ⟨bs, 0, none⟩)] w fun e w' => e = .returned (.int .i64 σ.count) ∧ Below w.heap.size w w' := by
  obtain ⟨bp, pes, pc, bk, kes, kc, rows, h1, h2, h3, h4⟩ := StoreAt.open_ h
  unfold StoreO at h4
  have hrow : Sat s w (bigstar rowHp rows * (pts bs (.cells #[.map (some bp), .int .i64 σ.limit, .int .i64 σ.now, .map (some bk)] 62 (0, 0)) * (pts bp (.map pes pc) * (pts bk (.map kes kc) * R)))) := by
    have h5 := h4
    rwa [show pts bs (.cells #[.map (some bp), .int .i64 σ.limit, .int .i64 σ.now, .map (some bk)] 62 (0, 0)) * (pts bp (.map pes pc) * (pts bk (.map kes kc) * bigstar rowHp rows)) * R =
      bigstar rowHp rows * (pts bs (.cells #[.map (some bp), .int .i64 σ.limit, .int .i64 σ.now, .map (some bk)] 62 (0, 0)) * (pts bp (.map pes pc) * (pts bk (.map kes kc) * R))) by ac_rfl] at h5
  have hb : w.heap[bk]? = some (.map kes kc) := by
    have h5 := h4
    rw [show pts bs (.cells #[.map (some bp), .int .i64 σ.limit, .int .i64 σ.now, .map (some bk)] 62 (0, 0)) * (pts bp (.map pes pc) * (pts bk (.map kes kc) * bigstar rowHp rows)) * R =
      pts bk (.map kes kc) * (pts bs (.cells #[.map (some bp), .int .i64 σ.limit, .int .i64 σ.now, .map (some bk)] 62 (0, 0)) * (pts bp (.map pes pc) * (bigstar rowHp rows * R))) by ac_rfl] at h5
    exact h5.get
  simp only [mul_assoc] at h4
  have hl := rows_len hrow
  have hsum := lenSum_of h2 (fun p hp => by obtain ⟨a, c, hv, _⟩ := hl p hp; rw [hv]; rfl)
  rw [← h3] at hsum
  have := count_calls bs bk kes kc _ w (h4.cell rfl) hb h2 (fun p hp => by
    obtain ⟨q, hq, rfl⟩ := List.mem_map.1 hp
    obtain ⟨a, c, hv, hm⟩ := hl q hq
    exact ⟨a, _, c, hv, hm⟩) (by rw [hsum]; exact hc)
  rw [hsum] at this
  exact this

def keyInt : Value → Int
  | .int _ n => n
  | _ => 0

def minKey (now : Int) (l : List MapEntry) : Int := l.foldl (fun m e => min m (keyInt e.key)) now

theorem minKey_perm {l m : List MapEntry} (h : l.Perm m) : ∀ now, minKey now l = minKey now m := by
  induction h with
  | nil => intro _; rfl
  | cons x _ ih => intro now; exact ih _
  | swap x y l => intro now; simp only [minKey, List.foldl_cons]; congr 1; omega
  | trans _ _ ih1 ih2 => intro now; rw [ih1, ih2]

set_option maxHeartbeats 400000 in
theorem least_calls (bp : Nat) (pes : Array MapEntry) (pc : Nat) (l : List (Int × Value)) (now : Int) (w : World)
    (hb : w.heap[bp]? = some (.map pes pc)) (hh : Holds (.int .i64) pes pc l) :
    Calls Tryz.prog 66 #[.map (some bp), .int .i64 now] w fun e w' => e = .returned (.int .i64 (minKey now pes.toList)) ∧ Below w.heap.size w w' := by
  have hlt : bp < w.heap.size := by
    rcases Nat.lt_or_ge bp w.heap.size with h' | h'
    · exact h'
    · simp [Array.getElem?_eq_none h'] at hb
  have hr := range_run Tryz.underlying59 hb
  have HB := hid hb
  have HH : Hid (Holds (.int .i64) pes pc l) := hh
  clear hb hh
  go_enter Tryz.func66, Tryz.ntmps66
  go_wp2
  clear hr
  have Hb0 : Hid (Below w.heap.size w (w.alloc (.mapIter (some bp) pc #[] pc))) := (Below.refl _ _).alloc (Nat.le_refl _) _
  have Hi0 : Hid ((w.alloc (.mapIter (some bp) pc #[] pc)).heap[w.heap.size]? = some (.mapIter (some bp) pc #[] pc)) := by show (w.heap.push _)[w.heap.size]? = _; simp
  generalize hw0 : w.alloc (.mapIter (some bp) pc #[] pc) = w0 at *
  clear hw0
  go_loopg [1, 5] pes.toList.length (fun m n _ wr => ∃ (seen : Array Nat) (left : List MapEntry) (k : Int), m = left.length ∧ n = .int .i64 k ∧ Ranging (.int .i64) pes pc l seen left ∧
      minKey k left = minKey now pes.toList ∧ wr.heap[w.heap.size]? = some (.mapIter (some bp) pc seen pc) ∧ Below w.heap.size w wr)
  case atStart => exact ⟨#[], pes.toList, now, rfl, rfl, Ranging.start HH.out, rfl, Hi0.out, Hb0.out⟩
  case round =>
    obtain ⟨seen, left, k, rfl, rfl, hrg, hk, hit, hbl⟩ := hrel
    have hbk : wr.heap[bp]? = some (.map pes pc) := by rw [hbl.block bp hlt]; exact HB.out
    have hsat := Sat.two (by omega) hit hbk
    have HK : Hid (minKey k left = minKey now pes.toList) := hk
    clear hk hit hbk
    rcases next_cases (P := Tryz.prog) hrg hsat 0 with ⟨hl, n, hrun⟩ | ⟨e, left', w', hperm, hrg', hrun, hsat', hsz, hbl', hent⟩
    · subst hl
      clear hrg hsat
      generalize hfin : minKey now pes.toList = fin at *
      have HF := hid hfin
      clear hfin
      go_wp2
      go_ret
      exact ⟨ret_int (by rw [HF.out]; exact HK.out), hbl.drewN' n⟩
    · obtain ⟨_, p, hp, hkey, hval⟩ := hrg.mem (e := e) (hperm.mem_iff.2 (by simp))
      have HK2 : Hid (minKey (min k p.1) left' = minKey now pes.toList) := by
        have h1 := minKey_perm hperm k
        unfold Hid
        rw [← HK.out, h1]
        simp only [minKey, List.foldl_cons, hkey, keyInt]
      have hll : left.length = left'.length + 1 := by simpa using hperm.length_eq
      have hit' := hsat'.get
      have hbl2 := hbl.trans (hbl' _ (Nat.le_refl _))
      rw [hkey] at hrun hent
      have HI : Hid (w'.heap[w.heap.size]? = some (.mapIter (some bp) pc (seen.push e.born) pc)) := hit'
      have HR := hid hrg'
      have HL : Hid (left.length = left'.length + 1) := hll
      clear hrg hsat hsat' hit' hll hperm hp hkey hrg' hsz hbl' HK hval
      obtain ⟨pk, pv⟩ := p
      dsimp only at HK2 hrun hent
      rcases Int.lt_or_le pk k with hlt' | hlt'
      · have HM : Hid (min k pk = pk) := by unfold Hid; omega
        go_wp2
        go_roundg left'.length
        case measure => have := HL.out; omega
        case rel => exact ⟨_, left', pk, rfl, rfl, HR.out, by rw [← HM.out]; exact HK2.out, HI.out, hbl2⟩
      · have HM : Hid (min k pk = k) := by unfold Hid; omega
        go_wp2
        go_roundg left'.length
        case measure => have := HL.out; omega
        case rel => exact ⟨_, left', k, rfl, rfl, HR.out, by rw [← HM.out]; exact HK2.out, HI.out, hbl2⟩

set_option maxHeartbeats 400000 in
theorem Now_calls (bs : Nat) (now : Int) (w : World) (h : w.cell? ⟨bs, 2, none⟩ = some (.int .i64 now)) :
    Calls Tryz.prog 16 #[.pointer (some ⟨bs, 0, none⟩)] w fun e w' => e = .returned (.int .i64 now) ∧ w = w' := by
  go_enter Tryz.func16, Tryz.ntmps16
  go_wp2
  go_ret
  exact ⟨rfl, rfl⟩

theorem Now_sat {s : Out} {w : World} {bs : Nat} {σ : StoreS} {R : Hp} (h : Sat s w (StoreAt bs σ * R)) :
    Calls Tryz.prog 16 #[.pointer (some ⟨bs, 0, none⟩)] w fun e w' => e = .returned (.int .i64 σ.now) ∧ w = w' := by
  obtain ⟨bp, pes, pc, bk, kes, kc, rows, h1, h2, h3, h4⟩ := StoreAt.open_ h
  unfold StoreO at h4
  simp only [mul_assoc] at h4
  exact Now_calls bs σ.now w (h4.cell rfl)

/-- Has a key changed since a stamp? -/
def changedS (l : List Ver) (t : Nat) : Bool := decide (0 < l.length) && decide (t < stampAt l (l.length - 1))

set_option maxHeartbeats 400000 in
theorem changed_calls {bs bk : Nat} {key : ByteArray} {t : Nat} {v : Value} {l : List Ver} {w : World} (h3 : w.cell? ⟨bs, 3, none⟩ = some (.map (some bk)))
    (hlk : (Instr.lookup 60 (.map (some bk)) (.string key) false).run Tryz.prog w = .ok v w) (hv : VersAt w v l) :
    Calls Tryz.prog 60 #[.pointer (some ⟨bs, 0, none⟩), .string key, .int .i64 t] w fun e w' => e = .returned (.bool (changedS l t)) ∧ w = w' := by
  rcases hv with ⟨⟨a, rfl⟩, rfl⟩ | ⟨g, cap, rfl, h1, h2, hc⟩
  · go_enter Tryz.func60, Tryz.ntmps60
    go_wp2
    go_ret
    exact ⟨rfl, rfl⟩
  · unfold maxLen at h2
    generalize hn : l.length = n at *
    rcases Nat.eq_zero_or_pos n with rfl | hpos
    · have Hn := hid hn
      clear hn hc
      go_enter Tryz.func60, Tryz.ntmps60
      go_wp2
      go_ret
      exact ⟨by simp [changedS, Hn.out], rfl⟩
    · obtain ⟨x, hx, hst⟩ := stampAt_get (l := l) (i := n - 1) (by omega)
      have hcell := (hc (n - 1) x hx).2.2
      have HR : Hid (changedS l t = decide (t < x.stamp)) := by
        unfold Hid changedS; rw [hn, hst]; simp [hpos]
      clear hc hx hst hn
      generalize x.stamp = st at *
      have hcast : ((n : Int) - 1).toNat = n - 1 := by omega
      go_enter Tryz.func60, Tryz.ntmps60
      go_wp2
      go_ret
      exact ⟨by rw [HR.out]; simp, rfl⟩

theorem Changed_sat {s : Out} {w : World} {bs : Nat} {σ : StoreS} {R : Hp} (h : Sat s w (StoreAt bs σ * R)) (key : ByteArray) (t : Nat) :
    Calls Tryz.prog 60 #[.pointer (some ⟨bs, 0, none⟩), .string key, .int .i64 t] w fun e w' =>
      e = .returned (.bool (changedS ((aget key σ.keys).getD []) t)) ∧ w = w' := by
  obtain ⟨bp, pes, pc, bk, kes, kc, rows, h1, h2, h3, h4⟩ := StoreAt.open_ h
  obtain ⟨v, hlk, hv⟩ := StoreO.look h4 h2 key
  rw [← h3] at hv
  unfold StoreO at h4
  simp only [mul_assoc] at h4
  exact changed_calls (h4.cell rfl) hlk hv

end Go.Proofs.YtnjgddckejpddaaGreatDoor
