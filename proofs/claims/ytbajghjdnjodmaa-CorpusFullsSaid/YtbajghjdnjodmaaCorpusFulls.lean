/- CorpusFulls: as many entries as may be, and none more. -/
import Derived.Test.YtbajghjdnjodmaaCorpusNames
import Derived.Test.YtbajghjdnjodmaaCorpusDrop
import Derived.Deep.OwnRows
namespace Go.Proofs.Ytbajghjdnjodmaa
open Go.RowKit

theorem u8_range {x : Int} (h : (Lit.int .u8 x).wf = true) : 0 ≤ x ∧ x ≤ 255 := by
  simp only [Lit.wf, Bool.and_eq_true, decide_eq_true_eq] at h
  exact ⟨h.1, h.2⟩
def nmB (i : Nat) : ByteArray := ⟨#[110, UInt8.ofNat (97 + i / 26), UInt8.ofNat (97 + i % 26)]⟩
def namesA (i : Nat) : Array Value := ((List.range 66).map fun j => if j < i then .string (nmB j) else .string ⟨#[]⟩).toArray
theorem namesA_at {i j : Nat} (h : j < i) (hj : j < 66) : (namesA i)[j]? = some (.string (nmB j)) := by
  simp [namesA, List.getElem?_range hj, h]
theorem namesA_set {i : Nat} : (namesA i).setIfInBounds i (.string (nmB i)) = namesA (i + 1) := by
  apply Array.toList_inj.1
  simp only [namesA, Array.toList_setIfInBounds]
  apply List.ext_getElem?
  intro q
  rw [List.getElem?_set]
  by_cases hq : q < 66
  · by_cases e : i = q
    · subst e; simp [hq]
    · simp only [if_neg e, List.getElem?_map, List.getElem?_range hq, Option.map_some]
      by_cases h1 : q < i
      · rw [if_pos h1, if_pos (by omega)]
      · rw [if_neg h1, if_neg (by omega)]
  · have h1 : (List.range 66)[q]? = none := by simp; omega
    simp [h1]; intro e; omega

theorem make_names (W : World) : (Instr.makeSlice 28 (.int .i64 66) (.int .i64 66)).run Try.prog W = .ok (.slice (some ⟨W.heap.size, 0, none⟩) 66 66) (W.alloc (.cells (namesA 0) 9)) := by
  have h := run_make_row' (P := Try.prog) 28 9 (.string ⟨#[]⟩) 16 Try.underlying28 (by kernel_rfl) rfl .i64 .i64 66 (by decide) (by decide) W
  have e : madeCells #[Value.string ⟨#[]⟩] 66 = namesA 0 := by kernel_rfl
  rw [e] at h
  exact h
theorem namesA_free {i : Nat} (h : i < 66) : (namesA i)[i]? = some (.string ⟨#[]⟩) := by simp [namesA, List.getElem?_range h]
theorem nmB_eq {i : Nat} (h : i < 66) : (⟨#[110]⟩ : ByteArray) ++ strOfNums [97 + (i : Int) / 26, 97 + (i : Int) % 26] = nmB i := by
  apply bytes_ext
  rw [toList_data, toList_data]
  simp only [ByteArray.data_append, Array.toList_append, strOfNums, nmB]
  have h1 : (97 + (i : Int) / 26).toNat = 97 + i / 26 := by omega
  have h2 : (97 + (i : Int) % 26).toNat = 97 + i % 26 := by omega
  simp [h1, h2]
theorem conv_name (i : Nat) (W : World) : (convert 35 9 (.slice (some ⟨W.heap.size, 0, none⟩) 2 2)).run Try.prog (W.alloc (.cells #[.int .u8 (97 + (i : Int) / 26), .int .u8 (97 + (i : Int) % 26)] 5)) =
    .ok (.string (strOfNums [97 + (i : Int) / 26, 97 + (i : Int) % 26])) (W.alloc (.cells #[.int .u8 (97 + (i : Int) / 26), .int .u8 (97 + (i : Int) % 26)] 5)) := by
  refine run_convert_bytes_arg _ 35 5 Try.underlying35 Try.underlying5 W.heap.size 0 2 2 [97 + (i : Int) / 26, 97 + (i : Int) % 26] rfl (fun j hj => ?_) 9 Try.underlying9
  have h := cell_blk (new_blk W (.cells #[.int .u8 (97 + (i : Int) / 26), .int .u8 (97 + (i : Int) % 26)] 5)) (0 + j)
  rw [h]
  match j, hj with
  | 0, _ => rfl
  | 1, _ => rfl
/-- Where the names are laid: the corpus, its map, and the names. -/
def AtF (w1 : World) (i : Nat) (W : World) : Prop :=
  W.heap[w1.heap.size + 1]? = some (.cells #[.map (some w1.heap.size)] 69 (0, 0)) ∧ W.heap[w1.heap.size]? = some (.map (ents []) 0) ∧ W.heap[w1.heap.size + 1 + 1]? = some (.cells (namesA i) 9 (0, 0)) ∧ Below w1.heap.size w1 W
theorem atF_step {w1 W : World} {i : Nat} (h : AtF w1 i W) (hlt : i < 66) (o : Obj) :
    AtF w1 (i + 1) ((W.setCell ⟨w1.heap.size + 1 + 1, i, none⟩ (.string ((⟨#[110]⟩ : ByteArray) ++ strOfNums [97 + (i : Int) / 26, 97 + (i : Int) % 26]))).alloc o) := by
  rw [nmB_eq hlt]
  obtain ⟨a1, a2, a3, a4⟩ := h
  exact ⟨hk_alloc (hk_set a1 (by simp) _) _, hk_alloc (hk_set a2 (by simp; omega) _) _, hk_alloc (set_to a3 i _ namesA_set) _,
    bl_alloc (bl_set a4 (by simp; omega) _) _⟩
/-- Where the entries are put in: the corpus, its map, and the names. -/
def AtP (w1 : World) (l : List Ent) (c : Nat) (W : World) : Prop :=
  W.heap[w1.heap.size + 1]? = some (.cells #[.map (some w1.heap.size)] 69 (0, 0)) ∧ W.heap[w1.heap.size]? = some (.map (ents l) c) ∧ W.heap[w1.heap.size + 1 + 1]? = some (.cells (namesA 66) 9 (0, 0)) ∧ Below w1.heap.size w1 W
theorem AtP.put {w1 W W' : World} {l l' : List Ent} {c c' : Nat} (h : AtP w1 l c W) (hm : W'.heap[w1.heap.size]? = some (.map (ents l') c')) (hg : W.grownBy W' (some w1.heap.size)) : AtP w1 l' c' W' := by
  obtain ⟨a1, a2, a3, a4⟩ := h
  exact ⟨grown_blk a1 (by omega) hg, hm, grown_blk a3 (by omega) hg, grown_below a4 (Nat.le_refl _) hg⟩
theorem AtP.below {w1 W W' : World} {l : List Ent} {c : Nat} (h : AtP w1 l c W) (hb : Below W.heap.size W W') : AtP w1 l c W' := by
  obtain ⟨a1, a2, a3, a4⟩ := h
  exact ⟨hk_below a1 hb, hk_below a2 hb, hk_below a3 hb, bl_step a4 hb⟩
theorem nmB_inj {i j : Nat} (hi : i < 66) (hj : j < 66) (h : nmB i = nmB j) : i = j := by
  have h1 : (97 + i / 26) % 256 = (97 + j / 26) % 256 := by
    have := congrArg (fun s : ByteArray => (s.data.toList.getD 1 0).toNat) h
    simpa [nmB] using this
  have h2 : (97 + i % 26) % 256 = (97 + j % 26) % 256 := by
    have := congrArg (fun s : ByteArray => (s.data.toList.getD 2 0).toNat) h
    simpa [nmB] using this
  omega
theorem nmB_name {i : Nat} (hi : i < 66) : isNameB (nmB i) = true := by
  revert i; decide +kernel
theorem nmB_size (i : Nat) : (nmB i).size = 3 := rfl
/-- Names in a row, each with some entry without slices. -/
def Keys (l : List Ent) (ks : List Nat) : Prop := l.map (·.1) = ks.map nmB
theorem keys_none {l : List Ent} {ks : List Nat} (h : Keys l ks) (hk : ∀ k ∈ ks, k < 66) {i : Nat} (hi : i < 66) (hn : i ∉ ks) : findE (nmB i) l 0 = none := by
  apply findE_none
  intro e he heq
  have : e.1 ∈ l.map (·.1) := List.mem_map_of_mem he
  rw [h] at this
  obtain ⟨k, hk1, hk2⟩ := List.mem_map.1 this
  have := nmB_inj hi (hk k hk1) (heq.trans hk2.symm)
  exact hn (this ▸ hk1)
def fullL (j : Nat) : List Ent := (List.range j).map fun i => (nmB i, e0, i)
theorem fullL_keys (j : Nat) : Keys (fullL j) (List.range j) := by simp [Keys, fullL]
theorem fullL_len (j : Nat) : (fullL j).length = j := by simp [fullL]
theorem fullL_put {j : Nat} (hj : j < 64) : putE (fullL j) (nmB j) e0 j = fullL (j + 1) ∧ putC (fullL j) (nmB j) j = j + 1 := by
  have h : findE (nmB j) (fullL j) 0 = none := keys_none (fullL_keys j) (fun k hk => by have := List.mem_range.1 hk; omega) (by omega) (by simp)
  constructor
  · unfold putE; rw [h]; simp [fullL, List.range_succ]
  · simp [putC, h]
theorem fullL_at {j i : Nat} (hj : j ≤ 64) (hi : i < j) : findE (nmB i) (fullL j) 0 = some (i, e0) := by
  have h1 : (fullL j)[i]? = some (nmB i, e0, i) := by simp [fullL, List.getElem?_range hi]
  have := findE_at (i := 0) h1 (fun q e hq he => by
    have h2 : (fullL j)[q]? = some (nmB q, e0, q) := by simp [fullL, List.getElem?_range (show q < j by omega)]
    rw [h2] at he; cases he
    intro heq
    have := nmB_inj (by omega) (by omega) heq
    omega)
  simpa using this
abbrev e1 : Value := flatV 0 false 0 ⟨#[]⟩ true ⟨#[115]⟩
def oneL (a : Nat) : List Ent := (List.range 64).map fun i => (nmB i, (if i = a then e1 else e0), i)
theorem oneL_keys (a : Nat) : Keys (oneL a) (List.range 64) := by simp [Keys, oneL]
theorem oneL_len (a : Nat) : (oneL a).length = 64 := by simp [oneL]
theorem oneL_put {a : Nat} (ha : a < 64) : putE (fullL 64) (nmB a) e1 64 = oneL a ∧ putC (fullL 64) (nmB a) 64 = 64 := by
  have h := fullL_at (j := 64) (by omega) ha
  constructor
  · unfold putE; rw [h]
    apply List.ext_getElem?
    intro q
    simp only [oneL, fullL, List.getElem?_modify, List.getElem?_map]
    by_cases hq : q < 64
    · rw [List.getElem?_range hq]
      by_cases e : a = q
      · subst e; simp
      · simp [e, Ne.symm e]
    · have : (List.range 64)[q]? = none := by simp; omega
      rw [this]; simp
  · unfold putC; rw [h]; rfl
theorem oneL_at {a i : Nat} (hi : i < 64) : findE (nmB i) (oneL a) 0 = some (i, if i = a then e1 else e0) := by
  have h1 : (oneL a)[i]? = some (nmB i, (if i = a then e1 else e0), i) := by simp [oneL, List.getElem?_range hi]
  have := findE_at (i := 0) h1 (fun q e hq he => by
    have h2 : (oneL a)[q]? = some (nmB q, (if q = a then e1 else e0), q) := by simp [oneL, List.getElem?_range (show q < 64 by omega)]
    rw [h2] at he; cases he
    intro heq
    have := nmB_inj (by omega) (by omega) heq
    omega)
  simpa using this
theorem oneL_look {a i : Nat} (hi : i < 64) : ∃ has st, LookF (oneL a) (nmB i) true 0 false 0 ⟨#[]⟩ has st := by
  have h := oneL_at (a := a) hi
  by_cases e : i = a
  · rw [if_pos e] at h; exact ⟨_, _, lookF_some h⟩
  · rw [if_neg e] at h; exact ⟨_, _, lookF_some h⟩
def lessL (a b : Nat) : List Ent := (oneL a).eraseIdx b
theorem lessL_drop {a b : Nat} (hb : b < 64) : dropE (oneL a) (nmB b) = lessL a b := by unfold dropE; rw [oneL_at hb]; rfl
theorem lessL_len {a b : Nat} (hb : b < 64) : (lessL a b).length = 63 := by
  rw [lessL, List.length_eraseIdx, oneL_len, if_pos hb]
theorem lessL_keys (a b : Nat) : Keys (lessL a b) ((List.range 64).eraseIdx b) := by
  have h := oneL_keys a
  unfold Keys at *
  rw [lessL, List.eraseIdx_eq_take_drop_succ, List.eraseIdx_eq_take_drop_succ]
  simp only [List.map_append, List.map_take, List.map_drop, h]
theorem less_mem {b k : Nat} (h : k ∈ (List.range 64).eraseIdx b) : k < 64 := List.mem_range.1 ((List.eraseIdx_sublist _ _).subset h)
def lastL (a b : Nat) : List Ent := lessL a b ++ [(nmB 65, e0, 64)]
theorem lessL_none {a b i : Nat} (h1 : 64 ≤ i) (h2 : i < 66) : findE (nmB i) (lessL a b) 0 = none :=
  keys_none (lessL_keys a b) (fun k hk => by have := less_mem hk; omega) h2 (fun h => by have := less_mem h; omega)
theorem lastL_put {a b : Nat} : putE (lessL a b) (nmB 65) e0 64 = lastL a b ∧ putC (lessL a b) (nmB 65) 64 = 65 := by
  have h := lessL_none (a := a) (b := b) (i := 65) (by omega) (by omega)
  constructor
  · unfold putE; rw [h]; rfl
  · unfold putC; rw [h]; rfl
theorem lastL_len {a b : Nat} (hb : b < 64) : (lastL a b).length = 64 := by simp [lastL, lessL_len hb]
theorem lastL_none {a b : Nat} : findE (nmB 64) (lastL a b) 0 = none := by
  have h : Keys (lastL a b) ((List.range 64).eraseIdx b ++ [65]) := by
    have := lessL_keys a b
    unfold Keys at *
    simp [lastL, this]
  refine keys_none h (fun k hk => ?_) (by omega) (fun hk => ?_)
  · rcases List.mem_append.1 hk with hk | hk
    · have := less_mem hk; omega
    · simp at hk; omega
  · rcases List.mem_append.1 hk with hk | hk
    · have := less_mem hk; omega
    · simp at hk
theorem AtP.name {w1 W : World} {l : List Ent} {c : Nat} (h : AtP w1 l c W) (j : Nat) (hj : j < 66) : W.cell? ⟨w1.heap.size + 1 + 1, j, none⟩ = some (.string (nmB j)) := (cell_blk h.2.2.1 j).trans (namesA_at (i := 66) hj hj)
set_option maxRecDepth 20000 in
set_option maxHeartbeats 2000000 in
theorem fulls_nat (n m : Nat) (w : World) (hx : (n : Int) ≤ 255) (hy : (m : Int) ≤ 255) :
    Calls Try.prog 4 #[.int .u8 n, .int .u8 m] w fun e w' => e = .returned (.bool true) ∧ Below w.heap.size w w' := by
  have hmk := make_names
  have hn0 : 0 ≤ (n : Int) := by omega
  have hm0 : 0 ≤ (m : Int) := by omega
  go_enter Try.func4, Try.ntmps4
  go_wp2_with fail
  refine (awake24_any _).mono ?_
  rintro e w1 ⟨rfl, hb1⟩
  have HB1 := Lib.hid hb1
  clear hb1
  go_wp2_with fail
  refine (cnew_any _).mono ?_
  rintro e w' ⟨rfl, rfl⟩
  go_wp2_with fail
  refine abs_world (F := AtF w1 0) ⟨hk_alloc (corpus_blk w1) _, hk_alloc (corpus_map w1) _, ?_, bl_alloc (corpus_below w1) _⟩ ?_
  · have := new_blk ((w1.alloc (.map #[] 0)).alloc (.cells #[.map (some w1.heap.size)] 69)) (.cells (namesA 0) 9)
    rw [World.size_alloc, World.size_alloc] at this; exact this
  intro W0 HW0
  replace HW0 := Lib.hid HW0
  go_loopw [16] (fun t W => ∃ i : Nat, i ≤ 66 ∧ t = .int .i64 i ∧ Hid (AtF w1 i W)) (fun t _ => 66 - (intOf t).toNat)
  case atStart => exact ⟨0, by omega, rfl, HW0⟩
  case round =>
    obtain ⟨i, hi, rfl, H⟩ := hrel
    by_cases hlt : i < 66
    · have hcv := conv_name i
      have hci := (cell_blk H.out.2.2.1 i).trans (namesA_free hlt)
      have hfi := frozen_blk H.out.2.2.1 i
      have hsz := hk_lt H.out.2.2.1
      go_wp2_with fail
      go_roundw
      case rel => exact ⟨i + 1, by omega, by go_num, Lib.hid (atF_step H.out hlt _)⟩
      case measure => simp [intOf]; omega
    · obtain rfl : i = 66 := by omega
      clear hmk
      rw [show ((66 : Nat) : Int) = 66 from rfl]
      go_wp2_with fail
      have hP : AtP w1 (fullL 0) 0 wr := H.out
      replace hP := Lib.hid hP
      go_loopw [4, 34] (fun q t W => ∃ j : Nat, j ≤ 64 ∧ q = .bool false ∧ t = .int .i64 j ∧ Hid (AtP w1 (fullL j) j W)) (fun _ t _ => 64 - (intOf t).toNat)
      case atStart => exact ⟨0, by omega, rfl, rfl, hP⟩
      case round =>
        obtain ⟨j, hj, rfl, rfl, HJ⟩ := hrel
        by_cases hlt : j < 64
        · have hcj := (cell_blk HJ.out.2.2.1 j).trans (namesA_at (i := 66) (by omega) (by omega))
          go_wp2_with fail
          have hput := put_ok (w1.heap.size + 1) w1.heap.size j (fullL j) (nmB j) 0 false 0 ⟨#[]⟩ false ⟨#[]⟩ false 0 false 0 ⟨#[]⟩ false ⟨#[]⟩ wr HJ.out.1 HJ.out.2.1 (by rw [nmB_size]; decide) (lookF_none (keys_none (fullL_keys j) (fun k hk => by have := List.mem_range.1 hk; omega) (by omega) (by simp))) (nmB_name (by omega)) (.inr (by rw [fullL_len]; omega))
          rw [(fullL_put hlt).1, (fullL_put hlt).2] at hput
          refine hput.mono ?_
          clear hput hcj
          rintro e w2 ⟨rfl, hm2, hg2⟩
          have HP2 := Lib.hid (HJ.out.put hm2 hg2)
          clear hm2 hg2
          go_wp2_with fail
          go_roundw
          case rel => exact ⟨j + 1, by omega, rfl, by go_num, HP2⟩
          case measure => simp [intOf]; omega
        · obtain rfl : j = 64 := by omega
          rw [show ((64 : Nat) : Int) = 64 from rfl]
          refine abs_world (F := AtP w1 (fullL 64) 64) HJ.out ?_
          clear HJ
          intro W3 h3
          have H3 := Lib.hid h3
          have hc := fun (j : Nat) (hj : j < 66) => (cell_blk h3.2.2.1 j).trans (namesA_at (i := 66) hj hj)
          have hcx := hc (n % 64) (by omega)
          have hc64 := hc 64 (by omega)
          have hn64 : ((n : Int) % 64).toNat = n % 64 := by omega
          clear h3 hc
          go_wp2_with fail
          refine (put_full (w1.heap.size + 1) w1.heap.size 64 (fullL 64) (nmB 64) 0 false 0 ⟨#[]⟩ false ⟨#[]⟩ 0 false 0 ⟨#[]⟩ false ⟨#[]⟩ _ H3.out.1 H3.out.2.1 (by decide) (lookF_none (keys_none (fullL_keys 64) (fun k hk => by have := List.mem_range.1 hk; omega) (by omega) (by simp))) (nmB_name (by omega)) (fullL_len 64)).mono ?_
          rintro e W4 ⟨rfl, hb4⟩
          have H4 := Lib.hid (H3.out.below hb4)
          clear hb4 hcx hc64 H3
          go_wp2_with fail
          have hput := put_ok (w1.heap.size + 1) w1.heap.size 64 (fullL 64) (nmB (n % 64)) 0 false 0 ⟨#[]⟩ true ⟨#[115]⟩ true 0 false 0 ⟨#[]⟩ false ⟨#[]⟩ W4 H4.out.1 H4.out.2.1 (by rw [nmB_size]; decide) (lookF_some (fullL_at (by omega) (by omega))) (nmB_name (by omega)) (.inl rfl)
          rw [(oneL_put (a := n % 64) (by omega)).1, (oneL_put (a := n % 64) (by omega)).2] at hput
          refine hput.mono ?_
          clear hput
          rintro e W5 ⟨rfl, hm5, hg5⟩
          have h5 := H4.out.put hm5 hg5
          have H5 := Lib.hid h5
          have hl5 := clen_any (w1.heap.size + 1) w1.heap.size 64 (oneL (n % 64)) W5 (by rw [cell_blk h5.1]; rfl) h5.2.1
          rw [oneL_len] at hl5
          have HL5 := Lib.hid hl5
          have hcy := h5.name (m % 64) (by omega)
          have hm64 : ((m : Int) % 64).toNat = m % 64 := by omega
          clear hm5 hg5 h5 hl5
          go_wp2_with (go_at_call 14; refine HL5.out.mono ?_; rintro e w' ⟨rfl, rfl⟩)
          obtain ⟨has0, st0, hF⟩ := oneL_look (a := n % 64) (i := m % 64) (by omega)
          have hdrop := drop_ok (w1.heap.size + 1) w1.heap.size 64 (oneL (n % 64)) (nmB (m % 64)) 0 false 0 ⟨#[]⟩ has0 st0 W5 H5.out.1 H5.out.2.1 hF
          rw [lessL_drop (by omega)] at hdrop
          refine hdrop.mono ?_
          clear hdrop hF hcy
          rintro e W6 ⟨rfl, hm6, hg6⟩
          have h6 := H5.out.put hm6 hg6
          have H6 := Lib.hid h6
          have hl6 := clen_any (w1.heap.size + 1) w1.heap.size 64 (lessL (n % 64) (m % 64)) W6 (by rw [cell_blk h6.1]; rfl) h6.2.1
          rw [lessL_len (by omega)] at hl6
          have HL6 := Lib.hid hl6
          have hc65 := h6.name 65 (by omega)
          clear hm6 hg6 h6 hl6
          go_wp2_with (go_at_call 14; refine HL6.out.mono ?_; rintro e w' ⟨rfl, rfl⟩)
          have hput := put_ok (w1.heap.size + 1) w1.heap.size 64 (lessL (n % 64) (m % 64)) (nmB 65) 0 false 0 ⟨#[]⟩ false ⟨#[]⟩ false 0 false 0 ⟨#[]⟩ false ⟨#[]⟩ W6 H6.out.1 H6.out.2.1 (by rw [nmB_size]; decide) (lookF_none (lessL_none (by omega) (by omega))) (nmB_name (by omega)) (.inr (by rw [lessL_len (by omega)]; omega))
          rw [lastL_put.1, lastL_put.2] at hput
          refine hput.mono ?_
          clear hput hc65
          rintro e W7 ⟨rfl, hm7, hg7⟩
          have h7 := H6.out.put hm7 hg7
          have H7 := Lib.hid h7
          have hc64 := h7.name 64 (by omega)
          clear hm7 hg7 h7
          go_wp2_with fail
          refine (put_full (w1.heap.size + 1) w1.heap.size 65 (lastL (n % 64) (m % 64)) (nmB 64) 0 false 0 ⟨#[]⟩ false ⟨#[]⟩ 0 false 0 ⟨#[]⟩ false ⟨#[]⟩ _ H7.out.1 H7.out.2.1 (by decide) (lookF_none lastL_none) (nmB_name (by omega)) (lastL_len (by omega))).mono ?_
          rintro e W8 ⟨rfl, hb8⟩
          have H8 := Lib.hid (H7.out.below hb8)
          clear hb8 hc64
          go_wp2_with fail
          go_ret
          exact ⟨rfl, bl_step HB1.out H8.out.2.2.2⟩

theorem fulls_walk (x y : Int) (w : World) (hx : (Lit.int .u8 x).wf = true) (hy : (Lit.int .u8 y).wf = true) :
    Calls Try.prog 4 #[.int .u8 x, .int .u8 y] w fun e w' => e = .returned (.bool true) ∧ Below w.heap.size w w' := by
  obtain ⟨n, rfl⟩ := Int.eq_ofNat_of_zero_le (u8_range hx).1
  obtain ⟨m, rfl⟩ := Int.eq_ofNat_of_zero_le (u8_range hy).1
  exact fulls_nat n m w (u8_range hx).2 (u8_range hy).2
end Go.Proofs.Ytbajghjdnjodmaa
