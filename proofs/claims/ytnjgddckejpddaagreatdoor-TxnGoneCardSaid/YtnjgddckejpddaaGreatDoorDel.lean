/-
  Names without one: slices.DeleteFunc, txn.without, txn.gone; what an RDel, an RAppend writes.
-/
import Derived.Test.YtnjgddckejpddaaGreatDoorShelfD
import Derived.Test.YtnjgddckejpddaaGreatDoorLibS
import Derived.Test.YtnjgddckejpddaaGreatDoorLaw0
namespace Go.Proofs.YtnjgddckejpddaaGreatDoor
open Go.RowKit Go.Proofs.YtnjgddckejpddaaGreatDoor.Sep

/-- Names without one. -/
def delB (l : List ByteArray) (x : ByteArray) : List ByteArray := l.filter fun y => !decide (y = x)

set_option maxRecDepth 100000 in
theorem isName_calls (y x : ByteArray) (xb : Nat) (w : World) (hx : w.cell? ⟨xb, 0, none⟩ = some (.string x)) :
    Calls Tryz.prog 98 #[.string y, .pointer (some ⟨xb, 0, none⟩)] w fun e w' => e = .returned (.bool (decide (y = x))) ∧ w = w' := by
  go_enter Tryz.func98, Tryz.ntmps98
  go_wp2
  go_ret
  exact ⟨by show Ending.returned (.bool (y.toList == x.toList)) = _; rw [str_eq], rfl⟩

theorem cell_putRow {w : World} {g xb : Nat} {d : Array (List UInt8)} {n : Nat} {os : Array Obj} {v : Value} (hne : xb ≠ g) (hlt : xb < w.heap.size) (hx : w.cell? ⟨xb, 0, none⟩ = some v) :
    (Sort.grow (Sort.putRow encStr (Sort.ahead w n) g 0 d) os).cell? ⟨xb, 0, none⟩ = some v := by
  have h : (Sort.grow (Sort.putRow encStr (Sort.ahead w n) g 0 d) os).heap[xb]? = w.heap[xb]? := by
    show ((w.heap.modify g (Sort.onCells (Sort.putCells encStr 0 d))) ++ os)[xb]? = _
    rw [Array.getElem?_append_left (by simpa using hlt), Array.getElem?_modify, if_neg (fun e => hne e.symm)]
  unfold World.cell? at hx ⊢
  rw [h]; exact hx

theorem deleteSpec {s : Out} {W : World} {R : Hp} {v : Value} {l : List ByteArray} {xb : Nat} {x : ByteArray} (h : Sat s W (Row 9 1 v l.length (strs l) * (pts xb (.cells #[.string x] 9 (0, 0)) * R))) (hl : l.length ≤ 1048576) (hne : l ≠ []) :
    Calls Tryz.prog 97 #[v, .func (.func 98) #[] #[.pointer (some ⟨xb, 0, none⟩)]] W fun e w' => ∃ v', e = .returned v' ∧ Sat s w' (Row 9 1 v' (delB l x).length (strs (delB l x)) * R) := by
  obtain ⟨_, ⟨⟨a, rfl⟩, hn, h'⟩ | ⟨g, cap, cur, rfl, hnc, hcm, hsz, htk, h'⟩⟩ := Row.open_ h
  · exact absurd (List.eq_nil_of_length_eq_zero hn) hne
  · rw [Nat.mul_one] at hsz htk
    have hH : Sort.Holds encStr W g 0 (l.map fun b => b.data.toList).toArray := row_holds h' _ (by simpa [strs_bytes] using htk)
    have hxg : xb ≠ g := fun e => h'.ne e.symm
    have hx : W.cell? ⟨xb, 0, none⟩ = some (.string x) := h'.right.cell rfl
    have hxl := h'.right.lt
    have hb : ∀ y : List UInt8, decide (ofBytes y = x) = decide (y = x.data.toList) := fun y => by
      rw [Bool.eq_iff_iff, decide_eq_true_eq, decide_eq_true_eq]
      constructor
      · rintro rfl; simp [ofBytes]
      · rintro rfl; exact ofBytes_bytes x
    have gives : ∀ (W2 : World) (y : List UInt8), W2.cell? ⟨xb, 0, none⟩ = some (.string x) → FnGives Tryz.prog 98 #[.pointer (some ⟨xb, 0, none⟩)] #[encStr y] (.bool (decide (y = x.data.toList))) W2 := by
      intro W2 y hy
      refine (isName_calls (ofBytes y) x xb W2 hy).mono ?_
      rintro e w' ⟨rfl, rfl⟩
      exact ⟨by rw [hb], 0, rfl⟩
    have c := AnyE.slices_DeleteFunc Tryz.del encStr (fun _ => rfl) (fun y => decide (y = x.data.toList)) 98 #[.pointer (some ⟨xb, 0, none⟩)] (enters_of Tryz.func98 (by kernel_rfl) rfl) [] (fun w => by kernel_rfl) g 0 cap (l.map fun b => b.data.toList).toArray W
      (fun W2 y hb2 => gives W2 y ((hb2.cell hxl).trans hx))
      (fun n os dk y _ => gives _ y (cell_putRow hxg hxl hx))
      hH (by simp; omega) (by simpa using hnc)
    have hf : ((l.map fun b => b.data.toList).toArray.toList.filter fun y => !decide (y = x.data.toList)) = (delB l x).map fun b => b.data.toList := by
      unfold delB
      simp only [List.filter_map]
      congr 1
      apply List.filter_congr
      intro b _
      simp only [Function.comp_def]
      rw [← hb, ofBytes_bytes]
    rw [hf, List.length_map] at c
    simp only [List.size_toArray, List.length_map] at c
    refine c.mono ?_
    rintro e w' ⟨rfl, q, rfl⟩
    have hcl : (delB l x).length ≤ l.length := List.length_filter_le _ _
    refine ⟨_, rfl, ?_⟩
    have h2 := sat_putRow h' ((delB l x).map (fun b : ByteArray => b.data.toList) ++ List.replicate (l.length - (delB l x).length) []).toArray q #[]
    rw [Sort.grow_empty] at h2
    rw [show ∀ A B C : Hp, A * (B * C) = B * (A * C) from fun A B C => by ac_rfl] at h2
    refine Row.shut (sz := 1) (n := (delB l x).length) (xs := strs (delB l x)) h2.right (by omega) hcm (by simp [Sort.putCells, hsz]) ?_
    rw [Nat.mul_one]
    have h3 := putCells_take (enc := encStr) ((delB l x).map (fun b : ByteArray => b.data.toList) ++ List.replicate (l.length - (delB l x).length) []).toArray cur (by simp; omega)
    have h4 := congrArg (List.take (delB l x).length) h3
    rw [List.take_take] at h4
    have h5 : min (delB l x).length ((delB l x).map (fun b : ByteArray => b.data.toList) ++ List.replicate (l.length - (delB l x).length) ([] : List UInt8)).toArray.size = (delB l x).length := by simp
    rw [h5] at h4
    rw [h4, strs_bytes]
    simp

set_option maxRecDepth 100000 in
set_option maxHeartbeats 400000 in
theorem without_calls (l : List ByteArray) (x : ByteArray) (v : Value) (w : World) (hv : View 1 w v l.length (strs l)) (hl : l.length ≤ 1000000) (hne : l ≠ []) :
    Calls Tryz.prog 77 #[v, .string x] w fun e w' => ∃ v', e = .returned v' ∧ Fresh w w' (Row 9 1 v' (delB l x).length (strs (delB l x))) := by
  have h0 := (Sat.old w).alloc (.cells #[.string x] 9 (0, 0))
  have hb0 : Below w.heap.size w (w.alloc (.cells #[.string x] 9 (0, 0))) := (Below.refl _ _).alloc (Nat.le_refl _) _
  have HC := hid (clone_string v l.length _ (w.alloc (.cells #[.string x] 9 (0, 0))) (hv.below hb0) (one_strs l) (by omega))
  have HD : Hid (∀ w1 v1, Fresh (w.alloc (.cells #[.string x] 9 (0, 0))) w1 (Row 9 1 v1 l.length (strs l)) → Calls Tryz.prog 97 #[v1, .func (.func 98) #[] #[.pointer (some ⟨w.heap.size, 0, none⟩)]] w1 fun e w' => ∃ v', e = .returned v' ∧ Fresh w w' (Row 9 1 v' (delB l x).length (strs (delB l x)))) :=
    fun w1 v1 hf => deleteSpec (h0.fresh hf) (by omega) hne
  clear hv h0 hb0
  go_enter Tryz.func77, Tryz.ntmps77
  go_wp2_with (first
    | (go_at_call 30; (with_reducible refine HC.out.mono ?_); rintro e w1 ⟨v1, rfl, hf⟩
       have HD1 := hid (HD.out w1 v1 hf)
       clear hf)
    | (go_at_call 97; (with_reducible refine HD1.out.mono ?_); rintro e w2 ⟨v2, rfl, hf2⟩))
  go_ret
  exact ⟨_, rfl, hf2⟩

/-- What a gone writes, or why it does not. -/
def GoneOk (names : List ByteArray) (name all off : ByteArray) (ws : List Wr) (e : Int) : Prop :=
  if hasB names name = true then ws = [⟨off ++ name, ⟨#[]⟩, true⟩, ⟨all, join (delB names name), false⟩] ∧ e = 0 else ws = [] ∧ e = 9

theorem fresh_two (w : World) (x y : Wr) : Fresh w (w.alloc (.cells #[.string x.key, .string x.val, .bool x.gone, .string y.key, .string y.val, .bool y.gone] 73 (0, 0))) (Row 73 3 (.slice (some ⟨w.heap.size, 0, none⟩) 2 2) 2 (cellsOf Wr.cells [x, y])) := by
  have h := (Sat.old w).alloc (.cells #[.string x.key, .string x.val, .bool x.gone, .string y.key, .string y.val, .bool y.gone] 73 (0, 0))
  exact Row.shut h (Nat.le_refl _) (by decide) rfl rfl

theorem jsz_filter (l : List ByteArray) (p : ByteArray → Bool) : jsz (l.filter p) ≤ jsz l := by
  induction l with
  | nil => simp [jsz]
  | cons x l ih =>
    rw [List.filter_cons]
    simp only [jsz, List.map_cons, List.sum_cons] at ih ⊢
    split
    · simp only [List.map_cons, List.sum_cons]; omega
    · omega

set_option maxRecDepth 100000 in
set_option maxHeartbeats 1000000 in
theorem goneT_calls (L : LibS) {s : Out} {w : World} {tb bs bb : Nat} {r : Req} {tries : Nat} {τ : TryS} {R : Hp} (all off : ByteArray)
    (h : Sat s w (TxnTry tb bs bb r tries τ * R)) (hs : (τ.val all).1.size ≤ 900000) (hn : r.name.size ≤ 100000) (ho : off.size ≤ 100) :
    Calls Tryz.prog 59 #[.pointer (some ⟨tb, 0, none⟩), .string all, .string off] w fun e w' => ∃ v ws ec, e = .returned (.tuple #[v, .int .i64 ec]) ∧
      GoneOk (parts (τ.val all).1) r.name all off ws ec ∧ Fresh w w' (Row 73 3 v ws.length (cellsOf Wr.cells ws)) := by
  have HN := hid (names_calls L.sp all h (by omega))
  obtain ⟨tv, gb, ges, gc, _, h2⟩ := TxnTry.open_ h
  have htb : tb < w.heap.size := h2.lt
  have c3 : w.cell? ⟨tb, 3, none⟩ = some (.string r.name) := h2.cell rfl
  have hpl := parts_len (τ.val all).1
  have hpj := parts_jsz (τ.val all).1
  generalize hnm : parts (τ.val all).1 = nm at *
  have hpl' : nm.length ≤ 900000 := by omega
  have hpj' : jsz nm ≤ 900000 := by omega
  clear h h2 hs hnm hpl hpj
  have HCA : Hid (∀ W v, View 1 W v nm.length (strs nm) → Calls Tryz.prog 52 #[v, .string r.name] W fun e w' => e = .returned (.bool (hasB nm r.name)) ∧ w' = W) :=
    fun W v h => L.ct W v nm r.name h (by omega)
  have hdl : (delB nm r.name).length ≤ nm.length := List.length_filter_le _ _
  have hdj : jsz (delB nm r.name) ≤ jsz nm := jsz_filter nm _
  have HWA : Hid (∀ W v, nm ≠ [] → View 1 W v nm.length (strs nm) → Calls Tryz.prog 77 #[v, .string r.name] W fun e w' => ∃ v', e = .returned v' ∧ Fresh W w' (Row 9 1 v' (delB nm r.name).length (strs (delB nm r.name)))) :=
    fun W v hne h => without_calls nm r.name v W h (by omega) hne
  have HLA : Hid (∀ W v, View 1 W v (delB nm r.name).length (strs (delB nm r.name)) → Calls Tryz.prog 74 #[.string all, v] W fun e w' => e = .returned (.agg #[.string all, .string (join (delB nm r.name)), .bool false]) ∧ Below W.heap.size W w') :=
    fun W v h => list_calls all (delB nm r.name) v W h (by omega) (by rw [join_size]; omega)
  unfold GoneOk
  have hsz : off.size + r.name.size ≤ 9223372036854775807 := by omega
  have hsz2 : ¬ 9223372036854775807 < off.size + r.name.size := by omega
  clear hn ho hpl' hpj' hdl hdj
  cases hh : hasB nm r.name
  · simp only [hh] at HCA ⊢
    go_enter Tryz.func59, Tryz.ntmps59
    go_wp2_with (first
      | (go_at_call 53; (with_reducible refine HN.out.mono ?_); rintro e w2 ⟨v, rfl, hf⟩
         obtain ⟨_, _, a, cap, rfl, _, _⟩ := Row.len hf
         have HCtN := hid (HCA.out w2 _ (Row.view hf))
         have c3' : w2.cell? ⟨tb, 3, none⟩ = some (.string r.name) := (hf.below.cell htb).trans c3
         have HB2 := hid hf.below
         clear hf)
      | (go_at_call 52; (with_reducible refine HCtN.out.mono ?_); rintro e w' ⟨rfl, hw⟩; subst hw))
    go_ret2
    exact ⟨_, [], 9, rfl, by simp, Row.shut_none _ _ _ ((Sat.old w).below HB2.out)⟩
  · have hne : nm ≠ [] := by rintro rfl; simp [hasB] at hh
    simp only [hh] at HCA ⊢
    have HNe := hid hne
    clear hne hh
    go_enter Tryz.func59, Tryz.ntmps59
    go_wp2_with (first
      | (go_at_call 53; (with_reducible refine HN.out.mono ?_); rintro e w2 ⟨v, rfl, hf⟩
         obtain ⟨_, _, a, cap, rfl, _, _⟩ := Row.len hf
         have hv := Row.view hf
         have HCtN := hid (HCA.out w2 _ hv)
         have c3' : w2.cell? ⟨tb, 3, none⟩ = some (.string r.name) := (hf.below.cell htb).trans c3
         have hlt2 : tb < w2.heap.size := Nat.lt_of_lt_of_le htb hf.below.size
         have HWN := hid (HWA.out w2.drew _ HNe.out (hv.below (Below.refl _ _).drew))
         have HB2 := hid hf.below
         have q0 : w2.drew.cell? ⟨tb, 3, none⟩ = some (.string r.name) := c3'
         clear hf hv)
      | (go_at_call 52; (with_reducible refine HCtN.out.mono ?_); rintro e w' ⟨rfl, hw⟩; subst hw))
    go_region_held3 (fun w' => w'.cell? ⟨tb, 3, none⟩ = some (.string r.name)) (with_reducible first | exact q0 | exact q1 | exact q2 | exact q3 _)
      (first
        | (go_at_call 77; (with_reducible refine HWN.out.mono ?_); rintro e w3 ⟨v3, rfl, hf3⟩; have q1 : w3.cell? ⟨tb, 3, none⟩ = some (.string r.name) := (hf3.below.cell hlt2).trans q0; have HB3 := hid hf3.below; have HLN := hid (HLA.out w3 _ (Row.view hf3)); have hlt3 : tb < w3.heap.size := Nat.lt_of_lt_of_le hlt2 hf3.below.size; clear hf3)
        | (go_at_call 74; (with_reducible refine HLN.out.mono ?_); rintro e w4 ⟨rfl, hb4⟩; have q2 : w4.cell? ⟨tb, 3, none⟩ = some (.string r.name) := (hb4.cell hlt3).trans q1; have hlt4 : tb < w4.heap.size := Nat.lt_of_lt_of_le hlt3 hb4.size; have q3 : ∀ o : Obj, (w4.alloc o).cell? ⟨tb, 3, none⟩ = some (.string r.name) := fun o => (((Below.refl w4.heap.size w4).alloc (Nat.le_refl _) o).cell hlt4).trans q2; have HB4 := hid hb4; clear hb4))
    go_wp2
    go_ret2
    refine ⟨_, [⟨off ++ r.name, ⟨#[]⟩, true⟩, ⟨all, join (delB nm r.name), false⟩], 0, rfl, by simp, ?_⟩
    have hb : Below w.heap.size w w4 := (HB2.out.trans ((Below.refl _ _).drew.mono HB2.out.size)).trans ((HB3.out.mono HB2.out.size).trans (HB4.out.mono (Nat.le_trans HB2.out.size HB3.out.size)))
    exact ((Sat.old w).below hb).fresh (fresh_two w4 ⟨off ++ r.name, ⟨#[]⟩, true⟩ ⟨all, join (delB nm r.name), false⟩)

end Go.Proofs.YtnjgddckejpddaaGreatDoor
