/-
  What Go's library tells: Split, Sort, Compact, Contains, Sorted(Keys).
-/
import Derived.Test.YtnjgddckejpddaaGreatDoorShelf
import Derived.Test.YtnjgddckejpddaaGreatDoorStep
import Derived.Lib.SplitLaws
import Derived.Lib.SlicesCompact
namespace Go.Proofs.YtnjgddckejpddaaGreatDoor
open Go.RowKit Go.Proofs.YtnjgddckejpddaaGreatDoor.Sep

/-- strings.Split(s, "\n") -/
theorem splitSpec : SplitSpec := by
  intro s W hs
  have h1 : 1 ≤ (⟨#[10]⟩ : ByteArray).size := by decide
  have hle := Lib.countB_le ⟨#[10]⟩ h1 s.size s (Nat.le_refl _)
  have hlen := Lib.splitB_all ⟨#[10]⟩ h1 0 _ s rfl
  have c := Any.strings_genSplit_core Tryz.lays221 (by kernel_rfl) s ⟨#[10]⟩ 0 (-1) (Lib.countB s ⟨#[10]⟩ + 1) W hs h1 (Nat.zero_le _)
    (fun x c _ => by
      refine (Tryz.strings_Index_one x 10 _).mono fun e w' ⟨he, hw⟩ => ⟨?_, hw⟩
      rw [he]
      show _ = Ending.returned (Value.int .i64 (Lib.index x.data.toList [10]))
      rw [Lib.index_one])
    (by
      refine (Tryz.strings_Count_one s 10 W).mono fun e w' ⟨he, hw⟩ => ⟨?_, hw⟩
      rw [he]
      show _ = Ending.returned (Value.int .i64 ((Lib.count s.data.toList [10] : Nat) : Int))
      rw [Lib.count_one]
      rfl)
    (by decide) (by decide) (by rw [if_pos (by decide)]; omega)
  rw [Nat.add_sub_cancel, hlen] at c
  have e2 : Lib.cellsOf (Lib.splitB ⟨#[10]⟩ 0 (Lib.countB s ⟨#[10]⟩) s) (Lib.countB s ⟨#[10]⟩ + 1) = ((Lib.splitB ⟨#[10]⟩ 0 (Lib.countB s ⟨#[10]⟩) s).map Value.string).toArray := by rw [← hlen]; exact Lib.cellsOf_full _
  rw [e2] at c
  rw [pieces_length]
  have HC : Hid (Calls Tryz.prog 47 #[.string s, .string ⟨#[10]⟩, .int .i64 0, .int .i64 (-1)] W fun e w' => e = .returned (.slice (some ⟨W.heap.size, 0, none⟩) (Lib.countB s ⟨#[10]⟩ + 1) (Lib.countB s ⟨#[10]⟩ + 1)) ∧ w' = W.alloc (.cells ((Lib.splitB ⟨#[10]⟩ 0 (Lib.countB s ⟨#[10]⟩) s).map Value.string).toArray 9)) := c
  clear c e2 hle hlen
  show Calls Tryz.prog 29 #[.string s, .string ⟨#[10]⟩] W fun e w' => e = .returned (.slice (some ⟨W.heap.size, 0, none⟩) (Lib.countB s ⟨#[10]⟩ + 1) (Lib.countB s ⟨#[10]⟩ + 1)) ∧ w' = W.alloc (.cells ((Lib.splitB ⟨#[10]⟩ 0 (Lib.countB s ⟨#[10]⟩) s).map Value.string).toArray 9)
  generalize ((Lib.splitB ⟨#[10]⟩ 0 (Lib.countB s ⟨#[10]⟩) s).map Value.string).toArray = cs at *
  generalize Lib.countB s ⟨#[10]⟩ + 1 = n at *
  go_enter Tryz.func29, Tryz.ntmps29
  go_wp2_with (go_at_call 47; (with_reducible refine HC.out.mono ?_); rintro e w' ⟨rfl, rfl⟩)
  go_ret
  exact ⟨rfl, rfl⟩

/-- slices.Contains -/
theorem containsSpec : ContainsSpec := by
  rintro W v l x ⟨_, a, c, rfl, hnc, hcm, hcell, hnone⟩ hl
  rcases l with _ | ⟨y, r⟩
  · exact Tryz.slices_Contains_string_empty a c x W
  · obtain ⟨ad, rfl, h0⟩ := hcell 0 (.string y) (by simp [strs])
    obtain ⟨b, off, sp⟩ := ad
    have hsp : sp = none := by
      cases sp with
      | none => rfl
      | some p =>
        have : W.cell? ((⟨b, off, some p⟩ : Addr).add 0) = none := by
          unfold World.cell?
          split <;> simp [Addr.add]
        rw [this] at h0; cases h0
    subst hsp
    refine (Tryz.slices_Contains_string b off (y :: r).length c (y :: r) x W (Nat.le_refl _) (by simp only [List.length_cons] at hl ⊢; omega) fun j hj => ?_).mono ?_
    · obtain ⟨ad, e, h⟩ := hcell j (.string ((y :: r).getD j ByteArray.empty)) (by unfold strs; rw [List.getElem?_map, List.getElem?_eq_getElem hj, List.getD_eq_getElem?_getD, List.getElem?_eq_getElem hj]; rfl)
      obtain rfl := Option.some.inj e
      rw [add_none] at h; exact h
    · rintro e w' ⟨rfl, rfl⟩
      refine ⟨?_, rfl⟩
      refine congrArg (fun b => Ending.returned (.bool b)) ?_
      rw [List.take_length, Bool.eq_iff_iff, Lib.containsS_iff]
      unfold hasB
      rw [List.any_eq_true]
      constructor
      · intro h; exact ⟨x, h, by simp⟩
      · rintro ⟨z, hz, he⟩; rw [of_decide_eq_true he] at hz; exact hz

/-- A text of bytes, its list. -/
theorem enc_bytes (b : ByteArray) : encStr b.data.toList = .string b := by simp [encStr]
def ofBytes (l : List UInt8) : ByteArray := ⟨l.toArray⟩
theorem ofBytes_bytes (b : ByteArray) : ofBytes b.data.toList = b := by simp [ofBytes]
theorem enc_of (l : List UInt8) : encStr l = .string (ofBytes l) := rfl
theorem strs_bytes (l : List ByteArray) : strs l = (l.map fun b => b.data.toList).map encStr := by
  rw [List.map_map]; unfold strs; apply List.map_congr_left; intro b _; exact (enc_bytes b).symm

theorem putCells_take {enc : List UInt8 → Value} (d : Array (List UInt8)) (cur : Array Value) (h : d.size ≤ cur.size) : (Sort.putCells enc 0 d cur).toList.take d.size = d.toList.map enc := by
  apply List.ext_getElem?
  intro i
  by_cases hi : i < d.size
  · rw [List.getElem?_take_of_lt hi, List.getElem?_map]
    have h1 : i < cur.size := by omega
    have h3 : (Sort.putCells enc 0 d cur)[i]? = some (enc d[i]) := by
      unfold Sort.putCells
      simp [h1, hi]
    simp [h3, hi]
  · rw [List.getElem?_eq_none (by simp; omega), List.getElem?_eq_none (by simp; omega)]

theorem sat_putRow {s : Out} {w : World} {g : Nat} {cur : Array Value} {e : TypeId} {f : Nat × Nat} {R : Hp} (h : Sat s w (pts g (.cells cur e f) * R)) (d : Array (List UInt8)) (n : Nat) (os : Array Obj) :
    Sat s (Sort.grow (Sort.putRow encStr (Sort.ahead w n) g 0 d) os) (pts g (.cells (Sort.putCells encStr 0 d cur) e f) * R) := by
  have hlt := h.lt
  refine h.turn1 rfl ?_ fun k hk hne => ?_
  · show ((w.heap.modify g (Sort.onCells (Sort.putCells encStr 0 d))) ++ os)[g]? = _
    rw [Array.getElem?_append_left (by simpa using hlt), Array.getElem?_modify, if_pos rfl, h.get]
    rfl
  · show ((w.heap.modify g (Sort.onCells (Sort.putCells encStr 0 d))) ++ os)[k]? = _
    rw [Array.getElem?_append_left (by simpa using hk), Array.getElem?_modify, if_neg (fun e => hne e.symm)]

theorem row_holds {s : Out} {w : World} {g : Nat} {cur : Array Value} {e : TypeId} {R : Hp} (h : Sat s w (pts g (.cells cur e (0, 0)) * R)) (d : Array (List UInt8)) (hd : cur.toList.take d.size = d.toList.map encStr) : Sort.Holds encStr w g 0 d := by
  intro j hj
  have h1 : cur[j]? = some (encStr d[j]!) := by
    have := congrArg (fun l => l[j]?) hd
    simp only [List.getElem?_take_of_lt hj, List.getElem?_map] at this
    simp [hj] at this
    simp [hj, this]
  exact ⟨by rw [Nat.zero_add]; exact h.cell h1, h.free⟩

/-- slices.Sort -/
theorem sortSpec : SortSpec := by
  intro s W R v l h hl
  obtain ⟨_, ⟨⟨a, rfl⟩, hn, h'⟩ | ⟨g, cap, cur, rfl, hnc, hcm, hsz, htk, h'⟩⟩ := Row.open_ h
  · have : l = [] := List.eq_nil_of_length_eq_zero hn
    subst this
    refine (Tryz.slices_Sort_string_none a 0 W).mono ?_
    rintro e w' ⟨rfl, rfl⟩
    exact ⟨[], rfl, List.Perm.refl _, by simp, h⟩
  · rw [Nat.mul_one] at hsz htk
    have hH : Sort.Holds encStr W g 0 (l.map fun b => b.data.toList).toArray := row_holds h' _ (by simpa [strs_bytes] using htk)
    have c := Tryz.slices_Sort_string g 0 cap (l.map fun b => b.data.toList) W hH h'.lt (by simp; omega)
    rw [List.length_map] at c
    refine c.mono ?_
    rintro e w' ⟨rfl, n, os, rfl⟩
    have tr : ∀ a b c : List UInt8, decide (a ≤ b) = true → decide (b ≤ c) = true → decide (a ≤ c) = true := fun a b c h1 h2 => by simp only [decide_eq_true_eq] at *; exact List.le_trans h1 h2
    have tot : ∀ a b : List UInt8, (decide (a ≤ b) || decide (b ≤ a)) = true := fun a b => by simp only [Bool.or_eq_true, decide_eq_true_eq]; exact List.le_total a b
    have hp := List.mergeSort_perm (l.map fun b => b.data.toList) fun x y => decide (x ≤ y)
    have hpw := List.pairwise_mergeSort (le := fun x y : List UInt8 => decide (x ≤ y)) tr tot (l.map fun b => b.data.toList)
    generalize (l.map fun b => b.data.toList).mergeSort (fun x y => decide (x ≤ y)) = m at *
    have hlm : m.length = l.length := by simpa using hp.length_eq
    refine ⟨m.map ofBytes, rfl, ?_, ?_, ?_⟩
    · have := hp.map ofBytes
      simpa [List.map_map, Function.comp_def, ofBytes_bytes] using this
    · rw [List.pairwise_map]
      refine hpw.imp ?_
      intro a b hab
      have : a ≤ b := of_decide_eq_true hab
      unfold leB ofBytes
      simpa using List.not_lt.2 this
    · have h2 := sat_putRow h' m.toArray n os
      have hstr : strs (m.map ofBytes) = m.map encStr := by unfold strs; rw [List.map_map]; rfl
      have := Row.shut (sz := 1) (n := l.length) (xs := m.map encStr) h2 hnc hcm (by simp [Sort.putCells, hsz]) (by
        rw [Nat.mul_one]
        have := putCells_take (enc := encStr) m.toArray cur (by simp; omega)
        simpa [hlm] using this)
      rw [List.length_map, hlm, hstr]
      exact this

theorem compactB_snoc (y : ByteArray) : ∀ l : List ByteArray, compactB (l ++ [y]) = if l.getLast? = some y then compactB l else compactB l ++ [y]
  | [] => rfl
  | [x] => by
    simp only [List.singleton_append, compactB, List.getLast?_singleton, Option.some.injEq]
    split <;> simp_all
  | x :: z :: l => by
    have ih := compactB_snoc y (z :: l)
    simp only [List.cons_append] at ih ⊢
    rw [List.getLast?_cons_cons]
    unfold compactB
    by_cases h : x = z
    · simp only [h, if_true]
      exact ih
    · simp only [h, if_false]
      rw [ih]
      split <;> rfl

theorem compact_eq (l : List ByteArray) : Lib.compact (l.map fun b => b.data.toList) = (compactB l).map fun b => b.data.toList := by
  have key : ∀ m, m ≤ l.length → Lib.compactUpTo (l.map fun b => b.data.toList).toArray m = (compactB (l.take m)).map fun b => b.data.toList := by
    intro m
    induction m with
    | zero => intro _; simp [Lib.compactUpTo, compactB]
    | succ m ih =>
      intro hm
      have hlt : m < l.length := by omega
      rw [Lib.compactUpTo_succ, ih (by omega), List.take_succ_eq_append_getElem hlt, compactB_snoc]
      have hget : ∀ j, j < l.length → (l.map fun b => b.data.toList).toArray[j]! = (l[j]?.getD ⟨#[]⟩).data.toList := by
        intro j hj
        rw [getElem!_pos _ _ (by simpa using hj)]; simp [hj]
      rcases Nat.eq_zero_or_pos m with h0 | h0
      · subst h0
        simp [Lib.keeps, hget 0 hlt, hlt]
      · have hl1 : (l.take m).getLast? = some l[m - 1] := by
          rw [List.getLast?_eq_getElem?]
          simp only [List.length_take]
          rw [Nat.min_eq_left (by omega), List.getElem?_take_of_lt (by omega), List.getElem?_eq_getElem (by omega)]
        rw [hl1]
        have g1 := hget m hlt
        have g2 := hget (m - 1) (by omega)
        rw [List.getElem?_eq_getElem hlt] at g1
        rw [List.getElem?_eq_getElem (by omega)] at g2
        simp only [Option.getD_some] at g1 g2
        by_cases he : l[m - 1] = l[m]
        · have hk : Lib.keeps (l.map fun b => b.data.toList).toArray m = false := Lib.keeps_neg h0 (by rw [g1, g2, he])
          rw [hk]
          simp [he]
        · have hk : Lib.keeps (l.map fun b => b.data.toList).toArray m = true := Lib.keeps_pos (by
            rw [g1, g2]
            intro e; apply he
            have e2 := congrArg ofBytes e
            rw [ofBytes_bytes, ofBytes_bytes] at e2; exact e2.symm)
          rw [hk, g1]
          simp [he]
  have := key l.length (Nat.le_refl _)
  rw [List.take_length] at this
  unfold Lib.compact
  rw [List.length_map]; exact this

theorem compactB_length : ∀ l : List ByteArray, (compactB l).length ≤ l.length
  | [] => Nat.le_refl _
  | [_] => Nat.le_refl _
  | x :: y :: l => by
    have ih := compactB_length (y :: l)
    unfold compactB
    simp only [List.length_cons] at ih ⊢
    split
    · omega
    · simp only [List.length_cons]; omega

/-- slices.Compact -/
theorem compactSpec : CompactSpec := by
  intro s W R v l h hl
  obtain ⟨_, ⟨⟨a, rfl⟩, hn, h'⟩ | ⟨g, cap, cur, rfl, hnc, hcm, hsz, htk, h'⟩⟩ := Row.open_ h
  · have : l = [] := List.eq_nil_of_length_eq_zero hn
    subst this
    refine (Tryz.slices_Compact_string_empty a 0 W).mono ?_
    rintro e w' ⟨rfl, rfl⟩
    exact ⟨_, rfl, h⟩
  · rw [Nat.mul_one] at hsz htk
    have hH : Sort.Holds encStr W g 0 (l.map fun b => b.data.toList).toArray := row_holds h' _ (by simpa [strs_bytes] using htk)
    have c := Tryz.slices_Compact_string g 0 cap (l.map fun b => b.data.toList) W hH (by simp; omega) (by simpa using hnc)
    rw [List.length_map, compact_eq, List.length_map] at c
    refine c.mono ?_
    rintro e w' ⟨rfl, q, rfl⟩
    have hcl := compactB_length l
    refine ⟨_, rfl, ?_⟩
    have h2 := sat_putRow h' ((compactB l).map (fun b : ByteArray => b.data.toList) ++ List.replicate (l.length - (compactB l).length) []).toArray q #[]
    rw [Sort.grow_empty] at h2
    refine Row.shut (sz := 1) (n := (compactB l).length) (xs := strs (compactB l)) h2 (by omega) hcm (by simp [Sort.putCells, hsz]) ?_
    rw [Nat.mul_one]
    have h3 := putCells_take (enc := encStr) ((compactB l).map (fun b : ByteArray => b.data.toList) ++ List.replicate (l.length - (compactB l).length) []).toArray cur (by simp; omega)
    have h4 := congrArg (List.take (compactB l).length) h3
    rw [List.take_take] at h4
    have h5 : min (compactB l).length ((compactB l).map (fun b : ByteArray => b.data.toList) ++ List.replicate (l.length - (compactB l).length) ([] : List UInt8)).toArray.size = (compactB l).length := by simp
    rw [h5] at h4
    rw [h4, strs_bytes]
    simp

/-- slices.Sorted(maps.Keys(m)) -/
theorem sortedKeysSpec : SortedKeysSpec := by
  intro bk kes kc l W hb hh hl hz
  obtain ⟨hz, hnd⟩ := hz
  have hkeys : kes.toList.map (·.key) = l.map fun p => Value.string p.1 := by
    have := congrArg (List.map Prod.fst) hh.kv
    simpa [List.map_map, Function.comp_def] using this
  have hlen : kes.size = l.length := by
    have := congrArg List.length hkeys; simpa using this
  have hrd : ∀ x ∈ kes.toList, ∃ k : ByteArray, x.key = .string k ∧ k.size ≤ maxLen := by
    intro x hx
    have h1 : x.key ∈ kes.toList.map (·.key) := List.mem_map.2 ⟨x, hx, rfl⟩
    rw [hkeys] at h1
    obtain ⟨p, hp, e⟩ := List.mem_map.1 h1
    exact ⟨p.1, e.symm, hz p.1 (List.mem_map.2 ⟨p, hp, rfl⟩)⟩
  have hread : ∀ x ∈ kes.toList, ∀ k : ByteArray, x.key = .string k → k.size ≤ maxLen → WideElems.rd (H := Unit) Tryz.prog 9 (fun _ => some (.nil, [])) x = some (.string k.data.toList, .nil) := by
    intro x _ k hk hs
    unfold WideElems.rd
    rw [hk]
    have : keyOf Tryz.prog 9 (.string k) = some (.string k.data.toList) := by
      simp [keyOf, Tryz.underlying9, mapKey, hs]
    rw [this]; rfl
  have hown : W.ownsMap Tryz.prog 9 (fun _ => some ((.nil : DataW Unit), [])) bk kes.size (.map ((kes.toList.map (WideElems.rg Tryz.prog 9 fun _ => some ((.nil : DataW Unit), []))).foldr DataW.insert [])) := by
    refine ⟨kes, kc, hb, ⟨?_, ⟨hh.clk, ?_, ?_⟩, ?_⟩, Nat.le_refl _, rfl⟩
    · unfold maxLen; omega
    · exact hh.born.imp fun h => Nat.ne_of_lt h
    · rw [hkeys]
      have : (l.map fun p => Value.string p.1) = (l.map (·.1)).map Value.string := by rw [List.map_map]; rfl
      rw [this]
      refine List.pairwise_map.2 (hnd.imp ?_)
      intro a b hab e; injection e with e; exact hab e
    · intro x hx
      obtain ⟨k, hk, hs⟩ := hrd x hx
      exact ⟨_, hread x hx k hk hs⟩
  have hstr : (Go.strKeys (DataW.map ((kes.toList.map (WideElems.rg Tryz.prog 9 fun _ => some ((.nil : DataW Unit), []))).foldr DataW.insert []))).Perm (l.map fun p : ByteArray × Value => p.1.data.toList) := by
    show (List.map (fun p : Lit × DataW Unit => strOf p.1) _).Perm _
    refine ((WideShapes.sorted_perm _).map _).trans ?_
    rw [List.map_map]
    have e1 : kes.toList.map ((fun p : Lit × DataW Unit => strOf p.1) ∘ WideElems.rg Tryz.prog 9 fun _ => some ((.nil : DataW Unit), [])) = (kes.toList.map (·.key)).map fun v => (keyStr v).data.toList := by
      rw [List.map_map]
      apply List.map_congr_left
      intro x hx
      obtain ⟨k, hk, hs⟩ := hrd x hx
      simp only [Function.comp_def, WideElems.rg, hread x hx k hk hs, hk, Option.getD_some, keyStr, strOf]
    rw [e1, hkeys, List.map_map]
    exact List.Perm.refl _
  have hsz : Maps.size (DataW.map ((kes.toList.map (WideElems.rg Tryz.prog 9 fun _ => some ((.nil : DataW Unit), []))).foldr DataW.insert [])) = l.length := by
    have := hstr.length_eq
    simpa [Go.strKeys, Maps.size] using this
  refine (callsIn_wide.1 (Tryz.maps_Keys (some bk) W)).mono ?_
  rintro e w' ⟨rfl, rfl⟩
  refine ⟨_, rfl, (Below.refl _ _).alloc (Nat.le_refl _) _, ?_⟩
  refine (callsIn_wide.1 (Tryz.slices_Sorted_keys bk kes.size _ _ W hown (by rw [hsz]; unfold maxLen; omega) (by rw [hsz]; omega))).mono ?_
  rintro e w2 ⟨v, ss, rfl, hp, hrow, hnil, hbl⟩
  have hp2 := (List.mergeSort_perm ss fun x y => decide (x ≤ y)).trans (hp.trans hstr)
  have hl2 := (List.mergeSort_perm ss fun x y => decide (x ≤ y)).length_eq
  generalize ss.mergeSort (fun x y => decide (x ≤ y)) = m at *
  refine ⟨v, m.map ofBytes, rfl, ?_, ?_⟩
  · have := hp2.map ofBytes
    simpa [List.map_map, Function.comp_def, ofBytes_bytes] using this
  · rw [List.length_map]
    have hstrs : strs (m.map ofBytes) = m.map encStr := by unfold strs; rw [List.map_map]; rfl
    show Fresh _ w2 (Row 9 1 v m.length (strs (m.map ofBytes)))
    rw [hstrs, hl2]
    obtain ⟨hxl, ⟨rfl, hn0⟩ | ⟨g, cap, cur, rfl, hge, hgb, hnc, hcm, hcs, htk⟩⟩ := hrow
    · have hm0 : m = [] := List.eq_nil_of_length_eq_zero (by omega)
      subst hm0
      rw [hn0]
      exact Row.shut_none _ _ _ ((Sat.old _).below hbl)
    · exact Row.shut ((Sat.old _).new1 (by simp [out, hbl.os, hbl.tape, hbl.output]) hge hgb fun k hk => hbl.block k hk) hnc hcm hcs htk

theorem libS : LibS := ⟨splitSpec, sortSpec, compactSpec, containsSpec, sortedKeysSpec⟩

end Go.Proofs.YtnjgddckejpddaaGreatDoor
