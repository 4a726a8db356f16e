/-
  The store's Commit.
-/
import Derived.Test.YtnjgddckejpddaaGreatDoorStoreG
import Derived.Deep.RegionHeld3
import Derived.Deep.RegionLaw
namespace Go.Proofs.YtnjgddckejpddaaGreatDoor
open Go.RowKit Go.Proofs.YtnjgddckejpddaaGreatDoor.Sep

/-- A write: what a key is from now on. -/
structure Wr where
  key : ByteArray
  val : ByteArray
  gone : Bool
deriving Inhabited

def Wr.cells (x : Wr) : List Value := [.string x.key, .string x.val, .bool x.gone]

/-- One write is done at a stamp. -/
def StoreS.write (σ : StoreS) (x : Wr) : StoreS := { σ with keys := aset x.key ((aget x.key σ.keys).getD [] ++ [⟨x.val, x.gone, σ.now⟩]) σ.keys }

def StoreS.writes (σ : StoreS) (l : List Wr) : StoreS := l.foldl StoreS.write { σ with now := σ.now + 1 }

set_option maxRecDepth 100000 in
set_option maxHeartbeats 400000 in
theorem commit_full (bs _g n cap : Nat) (limit count : Int) (a : Option Addr) (w : World) (h1 : w.cell? ⟨bs, 1, none⟩ = some (.int .i64 limit)) (hn : n ≤ 1099511627776) (hc : 0 ≤ count ∧ count ≤ 1099511627776)
    (hlt : bs < w.heap.size)
    (HC : Hid (∀ k, Calls Tryz.prog 19 #[.pointer (some ⟨bs, 0, none⟩)] (w.drewN k) fun e w' => e = .returned (.int .i64 count) ∧ Below (w.drewN k).heap.size (w.drewN k) w')) (hfull : limit < count + n) :
    Calls Tryz.prog 46 #[.pointer (some ⟨bs, 0, none⟩), .slice a n cap] w fun e w' => e = .returned (.tuple #[.int .i64 0, .int .i64 13]) ∧ Below w.heap.size w w' := by
  obtain ⟨hc1, hc2⟩ := hc
  have hsum : IntKind.i64.wrap (count + n) = count + n := IntWalk.i64_in _ (by omega)
  go_enter Tryz.func46, Tryz.ntmps46
  go_wp2
  have hb0 : Below w.heap.size w w.drew := (Below.refl _ _).drew
  go_region_held3 (fun w' => w'.cell? ⟨bs, 1, none⟩ = some (.int .i64 limit) ∧ Below w.heap.size w w') (first | go_keep | exact ⟨by assumption, by assumption⟩)
    (first | (go_at_call 19; refine (HC.out 1).mono ?_; rintro e w' ⟨rfl, hb⟩; have q1 : w'.cell? ⟨bs, 1, none⟩ = some (.int .i64 limit) := (hb.cell hlt).trans h1; have q2 : Below w.heap.size w w' := hb0.trans hb; clear hb))
  go_wp2
  go_ret2
  exact ⟨rfl, q2⟩

/-- What the round of Commit reads, in a world. -/
abbrev Cm (bs bk xb : Nat) (now : Int) (x : Wr) (W' : World) : Prop :=
  W'.cell? ⟨bs, 3, none⟩ = some (.map (some bk)) ∧ W'.cell? ⟨bs, 2, none⟩ = some (.int .i64 now) ∧ W'.cell? ⟨xb, 0, none⟩ = some (.string x.key) ∧ W'.cell? ⟨xb, 1, none⟩ = some (.string x.val) ∧
    W'.cell? ⟨xb, 2, none⟩ = some (.bool x.gone)

theorem Cm.below {bs bk xb : Nat} {now : Int} {x : Wr} {W1 W2 : World} (h : Cm bs bk xb now x W1) (hb : Below W1.heap.size W1 W2) : Cm bs bk xb now x W2 := by
  obtain ⟨h1, h2, h3, h4, h5⟩ := h
  have hlt : ∀ p v, W1.cell? p = some v → p.block < W1.heap.size := fun p v h => World.block_lt_of_cell? _ _ h
  exact ⟨(hb.cell (hlt _ _ h1)).trans h1, (hb.cell (hlt _ _ h2)).trans h2, (hb.cell (hlt _ _ h3)).trans h3, (hb.cell (hlt _ _ h4)).trans h4, (hb.cell (hlt _ _ h5)).trans h5⟩

theorem Cm.alloc {bs bk xb : Nat} {now : Int} {x : Wr} {W1 : World} (h : Cm bs bk xb now x W1) (o : Obj) : Cm bs bk xb now x (W1.alloc o) :=
  h.below ((Below.refl _ _).alloc (Nat.le_refl _) _)

theorem Cm.allocd {bs bk xb : Nat} {now : Int} {x : Wr} {W1 : World} (h : Cm bs bk xb now x W1.drew) (o : Obj) : Cm bs bk xb now x (W1.alloc o).drew := h.alloc o

theorem Cm.of {s : Out} {W : World} {bs bk xb : Nat} {now : Nat} {x : Wr} {bp pc : Nat} {pes kes : Array MapEntry} {kc : Nat} {limit : Int} {rows : RowsT} {A F : Hp}
    (h : Sat s W (A * (StoreO bs limit now bp pes pc bk kes kc rows * (pts xb (.cells #[.string x.key, .string x.val, .bool x.gone] 73) * F)))) : Cm bs bk xb now x W := by
  have h1 := h.right
  have h2 := h1.right
  rw [StoreO.self_first] at h1
  exact ⟨h1.cell rfl, h1.cell rfl, h2.cell rfl, h2.cell rfl, h2.cell rfl⟩

theorem StoreO.view {s : Out} {w : World} {bs : Nat} {limit : Int} {now bp : Nat} {pes : Array MapEntry} {pc bk : Nat} {kes : Array MapEntry} {kc : Nat} {rows : RowsT} {R : Hp}
    (h : Sat s w (StoreO bs limit now bp pes pc bk kes kc rows * R)) (key : ByteArray) :
    View 4 w ((aget key (amap (fun r : Value × List Ver => r.1) rows)).getD (.slice none 0 0)) ((aget key (amap (fun r : Value × List Ver => r.2) rows)).getD []).length
      (cellsOf (Ver.cells key) ((aget key (amap (fun r : Value × List Ver => r.2) rows)).getD [])) := by
  rw [aget_amap, aget_amap]
  cases hx : aget key rows with
  | none => exact ⟨rfl, none, 0, rfl, Nat.le_refl _, by simp [maxLen], fun j u hu => by simp [cellsOf] at hu, fun _ => rfl⟩
  | some p =>
    obtain ⟨v, l⟩ := p
    simp only [Option.map_some, Option.getD_some]
    unfold StoreO at h
    rw [bigstar_get rowHp key (v, l) rows hx] at h
    rw [show pts bs (.cells #[.map (some bp), .int .i64 limit, .int .i64 now, .map (some bk)] 62 (0, 0)) * (pts bp (.map pes pc) * (pts bk (.map kes kc) * (rowHp (key, (v, l)) * bigstar rowHp (adel key rows)))) * R =
      rowHp (key, (v, l)) * (pts bs (.cells #[.map (some bp), .int .i64 limit, .int .i64 now, .map (some bk)] 62 (0, 0)) * (pts bp (.map pes pc) * (pts bk (.map kes kc) * bigstar rowHp (adel key rows))) * R) by ac_rfl] at h
    exact Row.view h

/-- A key's versions are new ones from now on. -/
theorem StoreO.put {s : Out} {w : World} {bs : Nat} {limit : Int} {now bp : Nat} {pes : Array MapEntry} {pc bk : Nat} {kes : Array MapEntry} {kc : Nat} {rows : RowsT} {R : Hp} (key : ByteArray) (v : Value) (l : List Ver)
    (h : Sat s w (Row 75 4 v l.length (cellsOf (Ver.cells key) l) * (StoreO bs limit now bp pes pc bk kes kc rows * R))) (h2 : Holds .string kes kc (amap (fun r : Value × List Ver => r.1) rows)) :
    ∃ es' c', (Instr.mapUpdate 60 (.map (some bk)) (.string key) v).run Tryz.prog w = .ok () { w with heap := w.heap.setIfInBounds bk (.map es' c') } ∧
      Holds .string es' c' (amap (fun r : Value × List Ver => r.1) (aset key (v, l) rows)) ∧
      Sat s { w with heap := w.heap.setIfInBounds bk (.map es' c') } (StoreO bs limit now bp pes pc bk es' c' (aset key (v, l) rows) * R) := by
  have h3 := h
  rw [StoreO.keys_first] at h3
  have e : Row 75 4 v l.length (cellsOf (Ver.cells key) l) * (pts bk (.map kes kc) * (pts bs (.cells #[.map (some bp), .int .i64 limit, .int .i64 now, .map (some bk)] 62 (0, 0)) * (pts bp (.map pes pc) * bigstar rowHp rows * R))) =
     pts bk (.map kes kc) * (bigstar rowHp rows * (rowHp (key, (v, l)) * (pts bs (.cells #[.map (some bp), .int .i64 limit, .int .i64 now, .map (some bk)] 62 (0, 0)) * (pts bp (.map pes pc) * R)))) := by
    rw [show rowHp (key, (v, l)) = Row 75 4 v l.length (cellsOf (Ver.cells key) l) from rfl]; ac_rfl
  rw [e] at h3
  obtain ⟨es', c', hup, hh⟩ := mapUpdate_run P.skeys (mt := 60) Tryz.underlying60 h3.get h2 key v
  have h4 := h3.setObj (.map es' c')
  refine ⟨es', c', hup, ?_, ?_⟩
  · rw [← aset_amap]; exact hh
  · rw [StoreO.keys_first, bigstar_set]
    have h5 : Sat s { w with heap := w.heap.setIfInBounds bk (.map es' c') } (pts bk (.map es' c') * (bigstar rowHp (adel key rows) * (rowHp (key, (v, l)) * (pts bs (.cells #[.map (some bp), .int .i64 limit, .int .i64 now, .map (some bk)] 62 (0, 0)) * (pts bp (.map pes pc) * R))))) := by
      cases hx : aget key rows with
      | none => rw [adel_of_none key rows hx]; exact h4
      | some p =>
        rw [bigstar_get rowHp key p rows hx] at h4
        have h6 := h4
        rw [show pts bk (.map es' c') * (rowHp (key, p) * bigstar rowHp (adel key rows) * (rowHp (key, (v, l)) * (pts bs (.cells #[.map (some bp), .int .i64 limit, .int .i64 now, .map (some bk)] 62 (0, 0)) * (pts bp (.map pes pc) * R)))) =
          rowHp (key, p) * (pts bk (.map es' c') * (bigstar rowHp (adel key rows) * (rowHp (key, (v, l)) * (pts bs (.cells #[.map (some bp), .int .i64 limit, .int .i64 now, .map (some bk)] 62 (0, 0)) * (pts bp (.map pes pc) * R))))) by ac_rfl] at h6
        exact h6.right
    rw [show pts bk (.map es' c') * (pts bs (.cells #[.map (some bp), .int .i64 limit, .int .i64 now, .map (some bk)] 62 (0, 0)) * (pts bp (.map pes pc) * (rowHp (key, (v, l)) * bigstar rowHp (adel key rows)) * R)) =
      pts bk (.map es' c') * (bigstar rowHp (adel key rows) * (rowHp (key, (v, l)) * (pts bs (.cells #[.map (some bp), .int .i64 limit, .int .i64 now, .map (some bk)] 62 (0, 0)) * (pts bp (.map pes pc) * R)))) by ac_rfl]
    exact h5

theorem sum_aset {V : Type} (f : V → Nat) (k : ByteArray) (v : V) : ∀ l : List (ByteArray × V), ((aset k v l).map fun p => f p.2).sum + ((aget k l).map f).getD 0 = (l.map fun p => f p.2).sum + f v
  | [] => by simp [aset, aget]
  | (j, u) :: l => by
    have ih := sum_aset f k v l
    unfold aset aget
    by_cases h : k = j
    · simp only [h, if_true, List.map_cons, List.sum_cons, Option.map_some, Option.getD_some]; omega
    · simp only [h, if_false, List.map_cons, List.sum_cons]; omega

theorem StoreS.count_write (σ : StoreS) (x : Wr) : (σ.write x).count = σ.count + 1 := by
  have h := sum_aset List.length x.key ((aget x.key σ.keys).getD [] ++ [⟨x.val, x.gone, σ.now⟩]) σ.keys
  unfold StoreS.count StoreS.write
  simp only at h ⊢
  cases hx : aget x.key σ.keys with
  | none => rw [hx] at h; simp only [Option.map_none, Option.getD_none, List.nil_append, List.length_cons, List.length_nil] at h ⊢; omega
  | some l => rw [hx] at h; simp only [Option.map_some, Option.getD_some, List.length_append, List.length_cons, List.length_nil] at h ⊢; omega

theorem StoreS.count_get (σ : StoreS) (key : ByteArray) : ((aget key σ.keys).getD []).length ≤ σ.count := by
  have h := sum_aset List.length key [] σ.keys
  unfold StoreS.count
  cases hx : aget key σ.keys with
  | none => simp
  | some l => rw [hx] at h; simp only [Option.map_some, Option.getD_some, List.length_nil] at h ⊢; omega

theorem StoreS.count_foldl : ∀ (l : List Wr) (σ : StoreS), (l.foldl StoreS.write σ).count = σ.count + l.length
  | [], _ => by simp
  | x :: l, σ => by rw [List.foldl_cons, StoreS.count_foldl l, StoreS.count_write, List.length_cons]; omega

theorem StoreS.now_foldl : ∀ (l : List Wr) (σ : StoreS), (l.foldl StoreS.write σ).now = σ.now
  | [], _ => rfl
  | x :: l, σ => by rw [List.foldl_cons, StoreS.now_foldl l]; rfl

/-- After k writes. -/
def StoreS.upto (σ : StoreS) (l : List Wr) (k : Nat) : StoreS := (l.take k).foldl StoreS.write { σ with now := σ.now + 1 }

theorem StoreS.upto_now (σ : StoreS) (l : List Wr) (k : Nat) : (σ.upto l k).now = σ.now + 1 := StoreS.now_foldl _ _
theorem StoreS.upto_count (σ : StoreS) (l : List Wr) (k : Nat) : (σ.upto l k).count ≤ σ.count + k := by
  unfold StoreS.upto
  rw [StoreS.count_foldl]
  have := List.length_take_le k l
  show σ.count + _ ≤ _
  omega
theorem StoreS.upto_succ (σ : StoreS) (l : List Wr) (k : Nat) (x : Wr) (h : l[k]? = some x) : σ.upto l (k + 1) = (σ.upto l k).write x := by
  unfold StoreS.upto
  rw [List.take_add_one, h]
  simp

/-- The facts of a round of Commit: the clone, the append, the store. -/
theorem commit_facts {s : Out} {W : World} {bs : Nat} {σ : StoreS} {x : Wr} {xb : Nat} {bp pc bk : Nat} {pes kes : Array MapEntry} {kc : Nat} {rows : RowsT} {F : Hp}
    (h1 : Holds (.int .i64) pes pc (amap (fun n => .int .i64 n) σ.pins)) (h2 : Holds .string kes kc (amap (fun r : Value × List Ver => r.1) rows)) (h3 : σ.keys = amap (fun r : Value × List Ver => r.2) rows)
    (h4 : Sat s W (StoreO bs σ.limit σ.now bp pes pc bk kes kc rows * (pts xb (.cells #[.string x.key, .string x.val, .bool x.gone] 73) * F))) (hc : σ.count ≤ 1099511627776) :
    ∃ v, (∀ W' : World, W'.heap[bk]? = some (.map kes kc) → (Instr.lookup 60 (.map (some bk)) (.string x.key) false).run Tryz.prog W' = .ok v W') ∧
      ∃ A B : World → Value → Prop,
      (Calls Tryz.prog 61 #[v] W.drew fun e w' => ∃ v', e = .returned v' ∧ Cm bs bk xb σ.now x w' ∧ A w' v') ∧
      (Calls Tryz.prog 61 #[v] (W.alloc (.cells #[.string x.key, .string x.val, .bool x.gone, .int .i64 σ.now] 75)).drew fun e w' => ∃ v', e = .returned v' ∧ Cm bs bk xb σ.now x w' ∧
          ∃ v2 w2, (Builtin.append_ #[76, 76] 76 #[v', .slice (some ⟨W.heap.size, 0, none⟩) 1 1]).run Tryz.prog w' = .ok v2 w2 ∧ Cm bs bk xb σ.now x w2 ∧ B w2 v2) ∧
      (∀ w' v', A w' v' → ∃ v2 w2, (Builtin.append_ #[76, 76] 76 #[v', .slice (some ⟨w'.heap.size, 0, none⟩) 1 1]).run Tryz.prog
          (w'.alloc (.cells #[.string x.key, .string x.val, .bool x.gone, .int .i64 σ.now] 75)) = .ok v2 w2 ∧ Cm bs bk xb σ.now x w2 ∧ B w2 v2) ∧
      (∀ w2 v2, B w2 v2 → ∃ w3, (Instr.mapUpdate 60 (.map (some bk)) (.string x.key) v2).run Tryz.prog w2 = .ok () w3 ∧ Cm bs bk xb σ.now x w3 ∧ Sat s w3 (StoreAt bs (σ.write x) * F)) := by
  obtain ⟨iv, hiv, hzv⟩ := zero_of P.iVers
  obtain ⟨i, z, E, hby⟩ := elem_store_version
  have hkeys := StoreS.count_get σ x.key
  rw [h3] at hkeys
  have hview := fun {W' : World} {A : Hp} (h : Sat s W' (A * (StoreO bs σ.limit σ.now bp pes pc bk kes kc rows * (pts xb (.cells #[.string x.key, .string x.val, .bool x.gone] 73) * F)))) => StoreO.view h.right x.key
  have hone : ∀ u ∈ cellsOf (Ver.cells x.key) ((aget x.key (amap (fun r : Value × List Ver => r.2) rows)).getD []), u.oneCell' = true := by
    intro u hu
    simp only [cellsOf, List.mem_flatMap] at hu
    obtain ⟨y, _, hu⟩ := hu
    simp only [Ver.cells, List.mem_cons, List.not_mem_nil, or_false] at hu
    rcases hu with rfl | rfl | rfl | rfl <;> rfl
  generalize hv : ((aget x.key (amap (fun r : Value × List Ver => r.1) rows)).getD (.slice none 0 0)) = v at *
  generalize hold : ((aget x.key (amap (fun r : Value × List Ver => r.2) rows)).getD []) = old at *
  refine ⟨v, fun W' hb => ?_, fun w' v' => Sat s w' (Row 75 4 v' old.length (cellsOf (Ver.cells x.key) old) * (StoreO bs σ.limit σ.now bp pes pc bk kes kc rows * (pts xb (.cells #[.string x.key, .string x.val, .bool x.gone] 73) * F))),
    fun w2 v2 => Sat s w2 (Row 75 4 v2 (old ++ [(⟨x.val, x.gone, σ.now⟩ : Ver)]).length (cellsOf (Ver.cells x.key) (old ++ [⟨x.val, x.gone, σ.now⟩])) * (StoreO bs σ.limit σ.now bp pes pc bk kes kc rows * (pts xb (.cells #[.string x.key, .string x.val, .bool x.gone] 73) * F))), ?_, ?_, ?_, ?_⟩
  · rw [← hv]; exact lookup_run P.skeys (mt := 60) Tryz.underlying60 hiv hzv hb h2 x.key
  · have h5 := h4.drew
    have hvw := hview (A := emp) (by rw [emp_mul]; exact h5)
    refine (clone_store_version v old.length _ W.drew hvw hone (by omega)).mono ?_
    rintro e w' ⟨v', rfl, hf⟩
    have h6 := h5.fresh hf
    exact ⟨v', rfl, Cm.of h6, h6⟩
  · have h5 := (h4.alloc (.cells #[.string x.key, .string x.val, .bool x.gone, .int .i64 σ.now] 75)).drew
    have hvw := hview h5
    refine (clone_store_version v old.length _ _ hvw hone (by omega)).mono ?_
    rintro e w' ⟨v', rfl, hf⟩
    have h6 := h5.fresh hf
    refine ⟨v', rfl, ?_, ?_⟩
    · have h7 := h6.right; exact Cm.of h7
    · have hsrc : Src Tryz.prog 4 76 (.slice (some ⟨W.heap.size, 0, none⟩) 1 1) 1 (Ver.cells x.key ⟨x.val, x.gone, σ.now⟩) w' := by
        refine Src.ofSlice _ (e' := 75) Tryz.underlying76 _ 1 1 _ rfl (fun j u hu => ?_) (fun u hu => ?_)
        · rw [add_none, Nat.zero_add]
          exact h6.right.cell (by simpa [Ver.cells] using hu)
        · simp only [Ver.cells, List.mem_cons, List.not_mem_nil, or_false] at hu
          rcases hu with rfl | rfl | rfl | rfl <;> rfl
      obtain ⟨v2, w2, hrun, _, hsat⟩ := Row.append E h6 76 hsrc (by unfold maxLen; omega) (by rw [hby]; omega)
      refine ⟨v2, w2, hrun, ?_, ?_⟩
      · have h7 := hsat.right; exact Cm.of h7
      · rw [show Row 75 4 v2 (old.length + 1) (cellsOf (Ver.cells x.key) old ++ Ver.cells x.key ⟨x.val, x.gone, σ.now⟩) * (pts W.heap.size (.cells #[.string x.key, .string x.val, .bool x.gone, .int .i64 σ.now] 75) * (StoreO bs σ.limit σ.now bp pes pc bk kes kc rows * (pts xb (.cells #[.string x.key, .string x.val, .bool x.gone] 73) * F))) =
            pts W.heap.size (.cells #[.string x.key, .string x.val, .bool x.gone, .int .i64 σ.now] 75) * (Row 75 4 v2 (old.length + 1) (cellsOf (Ver.cells x.key) old ++ Ver.cells x.key ⟨x.val, x.gone, σ.now⟩) * (StoreO bs σ.limit σ.now bp pes pc bk kes kc rows * (pts xb (.cells #[.string x.key, .string x.val, .bool x.gone] 73) * F))) by ac_rfl] at hsat
        have h8 := hsat.right
        rw [cellsOf_append, List.length_append]
        simpa [cellsOf] using h8
  · intro w' v' hA
    have h6 := hA.alloc (.cells #[.string x.key, .string x.val, .bool x.gone, .int .i64 σ.now] 75)
    rw [show pts w'.heap.size (.cells #[.string x.key, .string x.val, .bool x.gone, .int .i64 σ.now] 75) * (Row 75 4 v' old.length (cellsOf (Ver.cells x.key) old) * (StoreO bs σ.limit σ.now bp pes pc bk kes kc rows * (pts xb (.cells #[.string x.key, .string x.val, .bool x.gone] 73) * F))) =
      Row 75 4 v' old.length (cellsOf (Ver.cells x.key) old) * (pts w'.heap.size (.cells #[.string x.key, .string x.val, .bool x.gone, .int .i64 σ.now] 75) * (StoreO bs σ.limit σ.now bp pes pc bk kes kc rows * (pts xb (.cells #[.string x.key, .string x.val, .bool x.gone] 73) * F))) by ac_rfl] at h6
    have hsrc : Src Tryz.prog 4 76 (.slice (some ⟨w'.heap.size, 0, none⟩) 1 1) 1 (Ver.cells x.key ⟨x.val, x.gone, σ.now⟩) (w'.alloc (.cells #[.string x.key, .string x.val, .bool x.gone, .int .i64 σ.now] 75)) := by
      refine Src.ofSlice _ (e' := 75) Tryz.underlying76 _ 1 1 _ rfl (fun j u hu => ?_) (fun u hu => ?_)
      · rw [add_none, Nat.zero_add]
        exact h6.right.cell (by simpa [Ver.cells] using hu)
      · simp only [Ver.cells, List.mem_cons, List.not_mem_nil, or_false] at hu
        rcases hu with rfl | rfl | rfl | rfl <;> rfl
    obtain ⟨v2, w2, hrun, _, hsat⟩ := Row.append E h6 76 hsrc (by unfold maxLen; omega) (by rw [hby]; omega)
    refine ⟨v2, w2, hrun, ?_, ?_⟩
    · have h7 := hsat.right; exact Cm.of h7
    · rw [show Row 75 4 v2 (old.length + 1) (cellsOf (Ver.cells x.key) old ++ Ver.cells x.key ⟨x.val, x.gone, σ.now⟩) * (pts w'.heap.size (.cells #[.string x.key, .string x.val, .bool x.gone, .int .i64 σ.now] 75) * (StoreO bs σ.limit σ.now bp pes pc bk kes kc rows * (pts xb (.cells #[.string x.key, .string x.val, .bool x.gone] 73) * F))) =
          pts w'.heap.size (.cells #[.string x.key, .string x.val, .bool x.gone, .int .i64 σ.now] 75) * (Row 75 4 v2 (old.length + 1) (cellsOf (Ver.cells x.key) old ++ Ver.cells x.key ⟨x.val, x.gone, σ.now⟩) * (StoreO bs σ.limit σ.now bp pes pc bk kes kc rows * (pts xb (.cells #[.string x.key, .string x.val, .bool x.gone] 73) * F))) by ac_rfl] at hsat
      have h8 := hsat.right
      rw [cellsOf_append, List.length_append]
      simpa [cellsOf] using h8
  · intro w2 v2 hB
    obtain ⟨es', c', hup, hh, hsat⟩ := StoreO.put x.key v2 _ hB h2
    refine ⟨_, hup, ?_, ?_⟩
    · exact Cm.of (A := emp) (by rw [emp_mul]; exact hsat)
    · rw [show StoreO bs σ.limit σ.now bp pes pc bk es' c' (aset x.key (v2, old ++ [⟨x.val, x.gone, σ.now⟩]) rows) * (pts xb (.cells #[.string x.key, .string x.val, .bool x.gone] 73) * F) =
          pts xb (.cells #[.string x.key, .string x.val, .bool x.gone] 73) * (StoreO bs σ.limit σ.now bp pes pc bk es' c' (aset x.key (v2, old ++ [⟨x.val, x.gone, σ.now⟩]) rows) * F) by ac_rfl] at hsat
      refine StoreAt.shut (σ := σ.write x) hsat.right h1 hh ?_
      unfold StoreS.write
      simp only
      rw [h3, hold, ← aset_amap]

set_option maxRecDepth 100000 in
set_option maxHeartbeats 1000000 in
theorem commit_ok (s : Out) (bs : Nat) (σ : StoreS) (ws : List Wr) (g n cap : Nat) (w : World) (R : Hp)
    (h : Sat s w (StoreAt bs σ * (Row 73 3 (.slice (some ⟨g, 0, none⟩) n cap) n (cellsOf Wr.cells ws) * R))) (hn : n ≤ 549755813888) (hwn : ws.length = n) (hc : σ.count ≤ 549755813888) (hnow : σ.now ≤ 1099511627776)
    (hfull : (σ.count : Int) + n ≤ σ.limit) :
    Calls Tryz.prog 46 #[.pointer (some ⟨bs, 0, none⟩), .slice (some ⟨g, 0, none⟩) n cap] w fun e w' => e = .returned (.tuple #[.int .i64 (σ.now + 1 : Nat), .int .i64 0]) ∧
      Sat s w' (StoreAt bs (σ.writes ws) * (Row 73 3 (.slice (some ⟨g, 0, none⟩) n cap) n (cellsOf Wr.cells ws) * R)) := by
  have hcount := fun k => Count_sat (h.drewN k) (by omega)
  have HC : Hid (∀ k, Calls Tryz.prog 19 #[.pointer (some ⟨bs, 0, none⟩)] (w.drewN k) fun e w' => e = .returned (.int .i64 σ.count) ∧ Below (w.drewN k).heap.size (w.drewN k) w') := hcount
  obtain ⟨bp, pes, pc, bk, kes, kc, rows, h1, h2, h3, h4⟩ := StoreAt.open_ h
  rw [StoreO.self_first] at h4
  have c1 : w.cell? ⟨bs, 1, none⟩ = some (.int .i64 σ.limit) := h4.cell rfl
  have hlt := h4.lt
  have H4 := hid h4
  have H1 := hid h1
  have H2 := hid h2
  have H3 := hid h3
  have HW := hid hwn
  clear h hcount h1 h2 h3 h4 hwn
  have hsum : IntKind.i64.wrap ((σ.count : Int) + n) = σ.count + n := IntWalk.i64_in _ (by omega)
  have hb0 : Below w.heap.size w w.drew := (Below.refl _ _).drew
  have hnle : ¬ (σ.limit < (σ.count : Int) + n) := by omega
  have HL : Hid ((σ.count : Int) + n ≤ σ.limit) := hfull
  clear hfull
  go_enter Tryz.func46, Tryz.ntmps46
  go_wp2
  go_region_held3 (fun w' => w'.cell? ⟨bs, 1, none⟩ = some (.int .i64 σ.limit) ∧ Below w.heap.size w w') (first | go_keep | exact ⟨by assumption, by assumption⟩)
    (first | (go_at_call 19; refine (HC.out 1).mono ?_; rintro e w' ⟨rfl, hb⟩; have q1 : w'.cell? ⟨bs, 1, none⟩ = some (.int .i64 σ.limit) := (hb.cell hlt).trans c1; have q2 : Below w.heap.size w w' := hb0.trans hb; clear hb))
  have hS := H4.out.below q2
  have c2 : w'.cell? ⟨bs, 2, none⟩ = some (.int .i64 σ.now) := hS.cell rfl
  have f2 : w'.frozen? ⟨bs, 2, none⟩ = false := hS.free
  have hS2 := hid (hS.setCell (off := 2) (.int .i64 ((σ.now : Int) + 1)))
  clear hS q1 hb0 c1 hsum
  go_wp2
  have hS3 : Hid (Sat s (w'.setCell ⟨bs, 2, none⟩ (.int .i64 ((σ.now : Int) + 1))) (StoreAt bs (σ.upto ws 0) * (Row 73 3 (.slice (some ⟨g, 0, none⟩) n cap) n (cellsOf Wr.cells ws) * R))) := by
    refine StoreAt.shut (σ := σ.upto ws 0) (bp := bp) (bk := bk) (pes := pes) (kes := kes) ?_ H1.out H2.out H3.out
    rw [StoreO.self_first]
    exact hS2.out
  clear hS2 c2 f2 q2 H1 H2 H3 H4 HC hlt HL hnle
  generalize w'.setCell ⟨bs, 2, none⟩ (.int .i64 ((σ.now : Int) + 1)) = w3 at *
  go_loopg [27] n (fun m i wr => ∃ k : Nat, k ≤ n ∧ m = n - k ∧ i = .int .i64 k ∧ Sat s wr (StoreAt bs (σ.upto ws k) * (Row 73 3 (.slice (some ⟨g, 0, none⟩) n cap) n (cellsOf Wr.cells ws) * R)))
  case atStart => exact ⟨0, by omega, by omega, rfl, hS3.out⟩
  case round =>
    clear hS3
    obtain ⟨k, hk, rfl, rfl, hs⟩ := hrel
    by_cases hlt : k < n
    · obtain ⟨x, hx⟩ : ∃ x, ws[k]? = some x := ⟨ws[k]'(by have := HW.out; omega), by simp⟩
      have hrow := hs
      rw [show StoreAt bs (σ.upto ws k) * (Row 73 3 (.slice (some ⟨g, 0, none⟩) n cap) n (cellsOf Wr.cells ws) * R) = Row 73 3 (.slice (some ⟨g, 0, none⟩) n cap) n (cellsOf Wr.cells ws) * (StoreAt bs (σ.upto ws k) * R) by ac_rfl] at hrow
      have he : ∀ x : Wr, (Wr.cells x).length = 3 := fun _ => rfl
      have a0 : wr.cell? ⟨g, k * 3, none⟩ = some (.string x.key) := Row.at he hrow hx (j := 0) rfl
      have a1 : wr.cell? ⟨g, k * 3 + 1, none⟩ = some (.string x.val) := Row.at he hrow hx (j := 1) rfl
      have a2 : wr.cell? ⟨g, k * 3 + 2, none⟩ = some (.bool x.gone) := Row.at he hrow hx (j := 2) rfl
      have HS := hid hs
      clear hrow he hs
      have HX := hid hx
      clear hx
      go_wp2
      have hs1 := HS.out.alloc (.cells #[.string x.key, .string x.val, .bool x.gone] 73)
      clear HS a0 a1 a2
      generalize wr.alloc (.cells #[.string x.key, .string x.val, .bool x.gone] 73) = W at *
      generalize wr.heap.size = xb at *
      rw [show pts xb (.cells #[.string x.key, .string x.val, .bool x.gone] 73) * (StoreAt bs (σ.upto ws k) * (Row 73 3 (.slice (some ⟨g, 0, none⟩) n cap) n (cellsOf Wr.cells ws) * R)) =
        StoreAt bs (σ.upto ws k) * (pts xb (.cells #[.string x.key, .string x.val, .bool x.gone] 73) * (Row 73 3 (.slice (some ⟨g, 0, none⟩) n cap) n (cellsOf Wr.cells ws) * R)) by ac_rfl] at hs1
      obtain ⟨bp, pes, pc, bk, kes, kc, rows, h1, h2, h3, h4⟩ := StoreAt.open_ hs1
      clear hs1
      have hcnt := StoreS.upto_count σ ws k
      have hnw := StoreS.upto_now σ ws k
      have hsu := hid (StoreS.upto_succ σ ws k x HX.out)
      generalize hσ : σ.upto ws k = τ at *
      obtain ⟨v, hlk, A, B, hC1, hC2, hA, hB⟩ := commit_facts h1 h2 h3 h4 (by have := HW.out; omega)
      have h5 := h4
      rw [StoreO.self_first] at h5
      have h6 := h4
      rw [StoreO.keys_first] at h6
      have hb0 : W.drew.heap[bk]? = some (.map kes kc) := h6.get
      have hl0 := hlk W.drew hb0
      have hbl := h6.lt
      have hl1 : ∀ o, (Instr.lookup 60 (.map (some bk)) (.string x.key) false).run Tryz.prog (W.alloc o).drew = .ok v (W.alloc o).drew := fun o => hlk _ ((Below.heap_alloc _ _ _ hbl).trans hb0)
      have q0 : Cm bs bk xb τ.now x W.drew := ⟨h5.cell rfl, h5.cell rfl, h4.right.cell rfl, h4.right.cell rfl, h4.right.cell rfl⟩
      have HC1 := hid hC1
      have HC2 := hid hC2
      have HA := hid hA
      have HB := hid hB
      clear hC1 hC2 hA hB h1 h2 h3 h4 h5 h6 hlk hb0 hcnt hσ
      have Hnw := hid hnw
      clear hnw
      have Q0 := hid q0
      obtain ⟨q1, q2, q3, q4, q5⟩ := q0
      go_region_held3 (fun w' => w'.cell? ⟨bs, 3, none⟩ = some (.map (some bk)) ∧ w'.cell? ⟨bs, 2, none⟩ = some (.int .i64 τ.now) ∧ w'.cell? ⟨xb, 0, none⟩ = some (.string x.key) ∧ w'.cell? ⟨xb, 1, none⟩ = some (.string x.val) ∧ w'.cell? ⟨xb, 2, none⟩ = some (.bool x.gone))
        (with_reducible first | exact Q0.out | exact hq | exact hq2 | exact hq3 | exact Cm.allocd Q0.out _ | exact Cm.alloc hq _)
        (first
          | (go_at_call 61; ((with_reducible refine HC1.out.mono ?_); rintro e w' ⟨v', rfl, hq, hA1⟩))
          | (go_at_call 61; ((with_reducible refine HC2.out.mono ?_); rintro e w' ⟨v', rfl, hq, v2, w2, hrun, hq2, hB2⟩))
          | (obtain ⟨w3, hup, hq3, hs3⟩ := HB.out _ _ hB2; refine step_append_run hrun rfl rfl rfl (by simp [Act.eval]) (by simp [Act.eval]) ?_)
          | (obtain ⟨v2, w2, hrun, hq2, hB2⟩ := HA.out _ _ hA1; obtain ⟨w3, hup, hq3, hs3⟩ := HB.out _ _ hB2; refine step_append_run hrun rfl rfl rfl (by simp [Act.eval]) (by simp [Act.eval]) ?_))
      all_goals
        have hs4 : Hid (Sat s w3 (StoreAt bs (σ.upto ws (k + 1)) * (Row 73 3 (.slice (some ⟨g, 0, none⟩) n cap) n (cellsOf Wr.cells ws) * R))) := by
          unfold Hid
          rw [hsu.out]
          exact hs3
        clear hs3 hq3 hup hrun HC1 HC2 HA HB hl0 hl1 hbl q1 q2 q3 q4 q5 Q0
        go_wp2
        go_roundg (n - (k + 1))
        case measure => omega
        case rel => exact ⟨k + 1, by omega, rfl, by go_num, hs4.out⟩
    · have hkn : k = n := by omega
      subst hkn
      have hs1 := hs
      have hnw := StoreS.upto_now σ ws k
      have hfin : σ.upto ws k = σ.writes ws := by
        unfold StoreS.upto StoreS.writes
        rw [List.take_of_length_le (by have := HW.out; omega)]
      obtain ⟨bp, pes, pc, bk, kes, kc, rows, h1, h2, h3, h4⟩ := StoreAt.open_ hs1
      rw [StoreO.self_first] at h4
      rw [hnw] at h4
      have c2 : wr.cell? ⟨bs, 2, none⟩ = some (.int .i64 (σ.now + 1 : Nat)) := h4.cell rfl
      rw [hfin] at hs
      have HS := hid hs
      clear hs hs1 h1 h2 h3 h4 hfin hnw
      go_wp2
      go_ret2
      exact ⟨rfl, HS.out⟩

end Go.Proofs.YtnjgddckejpddaaGreatDoor
