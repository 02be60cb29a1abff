/- The document's names of an expression (printed by wip/names_print.py). -/
import Derived.Test.YtdlkdecigpaaaaaGreatDoorMpNA
import Derived.Test.YtdlkdecigpaaaaaGreatDoorMp34
import Derived.Test.YtdlkdecigpaaaaaGreatDoorMp37
import Derived.Test.YtdlkdecigpaaaaaGreatDoorMp38
namespace Go.Proofs.YtdlkdecigpaaaaaGreatDoor
set_option linter.unusedVariables false
set_option linter.unusedSimpArgs false
open Go.RowKit

theorem sl_drop2 {w : World} {S : Nat → Prop} {size n g o c k : Nat} {cs : List Value} (h : Sl w S size (.slice (some ⟨g, o, none⟩) n c) n cs) (hk : k ≤ n) :
    Sl w S size (.slice (if c = k then some ⟨g, o, none⟩ else some ⟨g, o + k * size, none⟩) (n - k) (c - k)) (n - k) (cs.drop (k * size)) := by
  by_cases e : c = k
  · obtain ⟨hl, a', c', e', h3, _⟩ := h
    cases e'
    obtain rfl : n = k := by omega
    rw [if_pos e, List.drop_eq_nil_of_le (by omega), Nat.sub_self, e, Nat.sub_self]
    exact ⟨by simp, _, _, rfl, Nat.le_refl _, fun h => (by cases h), fun h => absurd h (Nat.lt_irrefl _)⟩
  · rw [if_neg e]; exact h.drop hk
theorem place_lt {nm : ByteArray} : ∀ {l : List ByteArray} {j : Nat}, j < placeF l nm → ∃ h : j < l.length, lessB l[j] nm = true
  | [], j, h => by simp [placeF] at h
  | a :: l, j, h => by
    unfold placeF at h
    rw [List.takeWhile_cons] at h
    cases e : lessB a nm with
    | false => rw [e] at h; simp at h
    | true =>
      rw [e] at h
      cases j with
      | zero => exact ⟨by simp, e⟩
      | succ j =>
        obtain ⟨h1, h2⟩ := place_lt (l := l) (nm := nm) (j := j) (by unfold placeF; simpa using h)
        exact ⟨by simpa using h1, by simpa using h2⟩
theorem place_at {nm : ByteArray} : ∀ {l : List ByteArray} (h : placeF l nm < l.length), lessB l[placeF l nm] nm = false
  | [], h => by simp at h
  | a :: l, h => by
    have e2 : placeF (a :: l) nm = if lessB a nm then placeF l nm + 1 else 0 := by
      unfold placeF; rw [List.takeWhile_cons]; split <;> simp
    cases e : lessB a nm with
    | false => rw [e, if_neg (by simp)] at e2; simp only [e2]; exact e
    | true =>
      rw [e, if_pos rfl] at e2
      have h2 : placeF l nm < l.length := by rw [e2] at h; simpa using h
      simp only [e2, List.getElem_cons_succ]
      exact place_at h2
/-- Texts in a row, of whatever block; none: no row. -/
def RowS (w : World) (a : Option Addr) (c : Nat) (l : List ByteArray) : Prop := (a = none ∧ c = 0 ∧ l = []) ∨ (∃ g o, a = some ⟨g, o, none⟩) ∧ 0 < l.length ∧ Sl w (fun _ => True) 1 (.slice a l.length c) l.length (l.map Value.string)
theorem RowS.keep {w w' : World} {a : Option Addr} {c : Nat} {l : List ByteArray} (h : RowS w a c l) (k : Keeps [] w w') : RowS w' a c l := h.imp id fun ⟨h1, h2, h3⟩ => ⟨h1, h2, h3.keep (kc_keeps k fun _ _ => by simp)⟩
theorem RowS.sl {w : World} {a : Option Addr} {c : Nat} {l : List ByteArray} (h : RowS w a c l) : Sl w (fun _ => True) 1 (.slice a l.length c) l.length (l.map Value.string) := by
  rcases h with ⟨rfl, rfl, rfl⟩ | ⟨_, _, h⟩
  · exact Sl.nil
  · exact h
theorem nil_sl {W : World} {j : Nat} {l : List ByteArray} (hl : l = []) (hj : j ≤ l.length) : Sl W (fun _ => True) 1 (.slice none j 0) j ((l.map Value.string).take (j * 1)) := by
  subst hl
  obtain rfl : j = 0 := by simpa using hj
  exact Sl.nil
theorem nil_sl2 {W : World} {j : Nat} {l : List ByteArray} (hl : l = []) (hj : j ≤ l.length) : Sl W (fun _ => True) 1 (.slice none (l.length - j) 0) (l.length - j) ((l.map Value.string).drop j) := by
  subst hl
  obtain rfl : j = 0 := by simpa using hj
  exact Sl.nil
theorem own_addr {w : World} {base : Nat} {e : TypeId} {size n : Nat} {v : Value} {xs : List Value} (h : w.ownsRow base e size v n xs) (hn : 0 < n) : ∃ g cap, v = .slice (some ⟨g, 0, none⟩) n cap ∧ n ≤ cap := by
  rcases h.2 with ⟨_, h0⟩ | ⟨g, cap, cur, hv, _, _, h4, _⟩
  · omega
  · exact ⟨g, cap, hv, h4⟩
theorem row_one {W : World} {base : Nat} {t : TypeId} {g c : Nat} {nm : ByteArray} (h : W.ownsRow base t 1 (.slice (some ⟨g, 0, none⟩) (0 + 1) c) (0 + 1) ([] ++ #[Value.string nm].toList)) : RowS W (some ⟨g, 0, none⟩) c [nm] :=
  .inr ⟨⟨g, 0, rfl⟩, by simp, (Sl.of_own h).mono fun _ _ => trivial⟩
theorem row_ins {W : World} {base : Nat} {t : TypeId} {j c : Nat} {l : List ByteArray} {nm : ByteArray} {A : Option Addr} (hj : j ≤ l.length) (h : W.ownsRow base t 1 (.slice A (j + 1 + (l.length - j)) c) (j + 1 + (l.length - j)) ((l.map Value.string).take (j * 1) ++ [Value.string nm] ++ (l.map Value.string).drop j)) : RowS W A c (l.take j ++ [nm] ++ l.drop j) := by
  have hl : (l.take j ++ [nm] ++ l.drop j).length = j + 1 + (l.length - j) := by simp; omega
  have hs := (Sl.of_own h).mono (S' := fun _ => True) fun _ _ => trivial
  refine .inr ⟨?_, by rw [hl]; omega, ?_⟩
  · rcases h.2 with ⟨_, h0⟩ | ⟨g, cap, cur, hv, _⟩
    · omega
    · cases hv; exact ⟨_, _, rfl⟩
  · rw [hl]
    have e : (l.take j ++ [nm] ++ l.drop j).map Value.string = (l.map Value.string).take (j * 1) ++ [Value.string nm] ++ (l.map Value.string).drop j := by simp [List.map_take, List.map_drop]
    rw [e]; exact hs
/-- What it answers: a row of names. -/
def NamesSays (l : List ByteArray) (w : World) (e : Ending) (w' : World) : Prop := ∃ a c, e = .returned (.slice a l.length c) ∧ RowS w' a c l ∧ Keeps [] w w'
theorem names_at {l : List ByteArray} {w w' : World} {e : Ending} (h : NamesSays l w e w') : ∃ a c, e = .returned (.slice a l.length c) ∧ RowS w' a c l ∧ Keeps [] w w' := h
section
variable (nm : ByteArray) (b1 b2 b3 : Option Addr) (d1 d2 d3 : Nat) (w : World)
theorem app_none (ty : TypeId) (A : Option Addr) (n cap : Nat) (hn : n ≤ cap) (x : Option Addr) (cx : Nat) (w : World) : (Builtin.append_ #[25, 25] ty #[.slice A n cap, .slice x 0 cx]).run Tryz.prog w = .ok (.slice A n cap) w := by
  obtain ⟨i0, hi, _⟩ := info_parts elem_st.hi
  exact run_append_nothing w _ _ _ _ i0 u_strs hi A n cap hn _ (src_none u_strs x cx w)
set_option maxRecDepth 20000 in
set_option maxHeartbeats 4000000 in
theorem names_var0 : Calls Tryz.prog 19 #[.slice none 0 0, .agg #[.string varS, .string nm, .int .i64 0, .bool false, .int .i64 0, .string eS, .slice b1 0 d1, .slice b2 0 d2, .slice b3 0 d3]] w (NamesSays [nm] w) := by
  have HQ : Hid (Keeps [] w (w.alloc (.cells #[.string varS, .string nm, .int .i64 0, .bool false, .int .i64 0, .string eS, .slice b1 0 d1, .slice b2 0 d2, .slice b3 0 d3] 30)) ∧ (w.alloc (.cells #[.string varS, .string nm, .int .i64 0, .bool false, .int .i64 0, .string eS, .slice b1 0 d1, .slice b2 0 d2, .slice b3 0 d3] 30)).heap[w.heap.size]? = some (.cells #[.string varS, .string nm, .int .i64 0, .bool false, .int .i64 0, .string eS, .slice b1 0 d1, .slice b2 0 d2, .slice b3 0 d3] 30 (0, 0))) := Lib.hid ⟨(Keeps.refl _ _).alloc _, new_blk _ _⟩
  go_enter Tryz.func19, Tryz.ntmps19
  go_wp2_with fail
  refine abs_world (F := fun W => Keeps [] w W ∧ W.heap[w.heap.size]? = some (.cells #[.string varS, .string nm, .int .i64 0, .bool false, .int .i64 0, .string eS, .slice b1 0 d1, .slice b2 0 d2, .slice b3 0 d3] 30 (0, 0))) HQ.out (fun W3 HW3 => ?_)
  have H3 := Lib.hid HW3
  clear HW3 HQ
  have gb := cell_blk H3.out.2
  have hlb := hk_lt H3.out.2
  refine wp_loop_once ?_
  go_upto_region 3 with fail
  go_quiet (fail)
  refine ‹∀ (a : Act) (w : World), _ → _› _ _ ?_
  refine abs_world (F := fun W => Keeps [] w W ∧ W.heap[w.heap.size]? = some (.cells #[.string varS, .string nm, .int .i64 0, .bool false, .int .i64 0, .string eS, .slice b1 0 d1, .slice b2 0 d2, .slice b3 0 d3] 30 (0, 0))) (by exact ⟨H3.out.1.drewN _, H3.out.2⟩) (fun W4 HW4 => ?_)
  have H4 := Lib.hid HW4
  clear HW4 gb hlb
  have gb := cell_blk H4.out.2
  have hlb := hk_lt H4.out.2
  go_upto_region 5 with fail
  go_quiet (fail)
  refine ‹∀ (a : Act) (w : World), _ → _› _ _ ?_
  refine abs_world (F := fun W => Keeps [] w W ∧ W.heap[w.heap.size]? = some (.cells #[.string varS, .string nm, .int .i64 0, .bool false, .int .i64 0, .string eS, .slice b1 0 d1, .slice b2 0 d2, .slice b3 0 d3] 30 (0, 0))) (by exact ⟨H4.out.1.drewN _, H4.out.2⟩) (fun W5 HW5 => ?_)
  have H5 := Lib.hid HW5
  clear HW5 gb hlb
  have gb := cell_blk H5.out.2
  have hlb := hk_lt H5.out.2
  go_upto_region 6 with fail
  go_region_held3 (fun W' => ∀ o, W'.cell? ⟨w.heap.size, o, none⟩ = W5.cell? ⟨w.heap.size, o, none⟩)
    ((refine one_held hlb ?_; (repeat (first | with_reducible exact Keeps.refl _ _ | with_reducible exact HK8.out | with_reducible refine Keeps.drew ?_ | with_reducible refine Keeps.alloc ?_ _)); done))
    (first
      | (refine step_append_sl rfl _ _ _ rfl rfl elem_st (v := .slice (some ⟨W5.heap.size, 0, none⟩) 0 0) (x := .slice (some ⟨W5.heap.size + 1, 0, none⟩) 1 1) (base := W5.heap.size) rfl rfl (own_here _ (by ((repeat (first | with_reducible exact new_blk _ _ | with_reducible exact new_blk1 _ _ _ | with_reducible exact new_blk2 _ _ _ _ | with_reducible refine hk_drew ?_ | with_reducible refine hk_alloc ?_ _ | with_reducible refine hk_set ?_ (by dsimp only; omega) _)); done)) (by omega)) (Sl.one_of (S := fun _ => True) (by ((repeat (first | with_reducible exact new_blk _ _ | with_reducible exact new_blk1 _ _ _ | with_reducible exact new_blk2 _ _ _ _ | with_reducible refine hk_drew ?_ | with_reducible refine hk_alloc ?_ _ | with_reducible refine hk_set ?_ (by dsimp only; omega) _)); done)) trivial rfl) (by exact one_str [nm]) (by unfold maxLen; omega) (by omega) (by (try simp only [World.size_drew, World.size_alloc]); omega) ?_; intro v8 w8 ho hgr hb; obtain ⟨g8, cap8, rfl, hvc0⟩ := own_addr ho (Nat.succ_pos _); have hvc : 1 ≤ cap8 := hvc0; clear hvc0; have HK8 : Hid (Keeps [] W5 w8) := Lib.hid (keeps_grown (by (repeat (first | with_reducible exact Keeps.refl _ _ | with_reducible refine Keeps.drew ?_ | with_reducible refine Keeps.alloc ?_ _))) hgr (fun q hq => by simp only [Value.ownBlock, Option.some.injEq] at hq; omega)); have RO := Lib.hid (row_one ho); clear ho hgr hb)
      | (refine step_append_sl rfl _ _ _ rfl rfl elem_st (v := .slice (some ⟨W5.heap.size + 1, 0, none⟩) 0 0) (x := .slice (some ⟨W5.heap.size, 0, none⟩) 1 1) (base := W5.heap.size) rfl rfl (own_here _ (by ((repeat (first | with_reducible exact new_blk _ _ | with_reducible exact new_blk1 _ _ _ | with_reducible exact new_blk2 _ _ _ _ | with_reducible refine hk_drew ?_ | with_reducible refine hk_alloc ?_ _ | with_reducible refine hk_set ?_ (by dsimp only; omega) _)); done)) (by omega)) (Sl.one_of (S := fun _ => True) (by ((repeat (first | with_reducible exact new_blk _ _ | with_reducible exact new_blk1 _ _ _ | with_reducible exact new_blk2 _ _ _ _ | with_reducible refine hk_drew ?_ | with_reducible refine hk_alloc ?_ _ | with_reducible refine hk_set ?_ (by dsimp only; omega) _)); done)) trivial rfl) (by exact one_str [nm]) (by unfold maxLen; omega) (by omega) (by (try simp only [World.size_drew, World.size_alloc]); omega) ?_; intro v8 w8 ho hgr hb; obtain ⟨g8, cap8, rfl, hvc0⟩ := own_addr ho (Nat.succ_pos _); have hvc : 1 ≤ cap8 := hvc0; clear hvc0; have HK8 : Hid (Keeps [] W5 w8) := Lib.hid (keeps_grown (by (repeat (first | with_reducible exact Keeps.refl _ _ | with_reducible refine Keeps.drew ?_ | with_reducible refine Keeps.alloc ?_ _))) hgr (fun q hq => by simp only [Value.ownBlock, Option.some.injEq] at hq; omega)); have RO := Lib.hid (row_one ho); clear ho hgr hb)
      | (refine step_append_no rfl _ _ _ rfl rfl rfl (vy := .slice none 0 0) (app_none _ _ 1 _ hvc _ _ _) ?_)
      | (refine step_append_no rfl _ _ _ rfl rfl rfl (vy := .slice none 0 0) (app_none _ _ 0 0 (Nat.le_refl _) _ _ _) ?_))
  all_goals
    refine ‹∀ (a : Act) (w : World), _ → _› _ _ ?_
    refine abs_world (F := fun W => Keeps [] w W ∧ RowS W (some ⟨g8, 0, none⟩) cap8 [nm] ∧ W.heap[w.heap.size]? = some (.cells #[.string varS, .string nm, .int .i64 0, .bool false, .int .i64 0, .string eS, .slice b1 0 d1, .slice b2 0 d2, .slice b3 0 d3] 30 (0, 0))) (by first | exact ⟨H5.out.1.trans HK8.out, RO.out, HK8.out.same H5.out.2⟩ | exact ⟨(H5.out.1.trans HK8.out).drew, RO.out.keep ((Keeps.refl _ _).drew), HK8.out.same H5.out.2⟩) (fun W9 HW9 => ?_)
    have HF0 := Lib.hid HW9
    clear HW9
    have gb7 := cell_blk HF0.out.2.2
    go_wp2_with fail
    all_goals
      clear gb7
      refine wp_loop_once ?_
      go_wp2_with fail
    all_goals
      go_ret
      exact ⟨(some ⟨g8, 0, none⟩), cap8, rfl, HF0.out.2.1, HF0.out.1⟩
end
section
variable (nm : ByteArray) (l : List ByteArray) (a b1 b2 b3 : Option Addr) (c d1 d2 d3 : Nat) (w : World)
set_option maxRecDepth 20000 in
set_option maxHeartbeats 8000000 in
theorem names_var1 (hne : l ≠ []) (hrow : RowS w a c l) (hlen : l.length ≤ 100000) : Calls Tryz.prog 19 #[.slice a l.length c, .agg #[.string varS, .string nm, .int .i64 0, .bool false, .int .i64 0, .string eS, .slice b1 0 d1, .slice b2 0 d2, .slice b3 0 d3]] w (NamesSays (insF l nm) w) := by
  have HB0 : Hid (Keeps [] w (w.alloc (.cells #[.string varS, .string nm, .int .i64 0, .bool false, .int .i64 0, .string eS, .slice b1 0 d1, .slice b2 0 d2, .slice b3 0 d3] 30)) ∧ (w.alloc (.cells #[.string varS, .string nm, .int .i64 0, .bool false, .int .i64 0, .string eS, .slice b1 0 d1, .slice b2 0 d2, .slice b3 0 d3] 30)).heap[w.heap.size]? = some (.cells #[.string varS, .string nm, .int .i64 0, .bool false, .int .i64 0, .string eS, .slice b1 0 d1, .slice b2 0 d2, .slice b3 0 d3] 30 (0, 0))) := Lib.hid ⟨(Keeps.refl _ _).alloc _, new_blk _ _⟩
  have HROW := Lib.hid hrow
  have HNE := Lib.hid hne
  clear hrow hne
  go_enter Tryz.func19, Tryz.ntmps19
  go_wp2_with fail
  go_loopw [5] (fun v W => ∃ j : Nat, j ≤ placeF l nm ∧ v = .int .i64 j ∧ Hid (Keeps [] w W ∧ W.heap[w.heap.size]? = some (.cells #[.string varS, .string nm, .int .i64 0, .bool false, .int .i64 0, .string eS, .slice b1 0 d1, .slice b2 0 d2, .slice b3 0 d3] 30 (0, 0)))) (fun v _ => placeF l nm - (intOf v).toNat)
  case atStart => exact ⟨0, Nat.zero_le _, rfl, HB0⟩
  case round =>
    obtain ⟨j, hj, rfl, HQ⟩ := hrel
    have hpl := place_le l nm
    have gb := cell_blk HQ.out.2
    have hlb := hk_lt HQ.out.2
    by_cases hlt : j < placeF l nm
    · obtain ⟨hjl, hless⟩ := place_lt hlt
      have hs2 := (HROW.out.keep HQ.out.1).sl
      obtain ⟨g', o', c', hv, _, _, _, hcells⟩ := hs2.at (by omega)
      cases hv
      have y0 := hcells j (.string l[j]) (by rw [List.getElem?_map, List.getElem?_eq_getElem hjl]; rfl)
      have hd : decide ((j : Int) < (l.length : Int)) = true := decide_eq_true (by omega)
      have hls : Op.bytesLess l[j].toList nm.toList = true := hless
      clear hs2 hcells hless
      go_upto_region 3 with fail
      go_quiet (fail)
      refine ‹∀ (a : Act) (w : World), _ → _› _ _ ?_
      refine abs_world (F := fun W => Keeps [] w W ∧ W.heap[w.heap.size]? = some (.cells #[.string varS, .string nm, .int .i64 0, .bool false, .int .i64 0, .string eS, .slice b1 0 d1, .slice b2 0 d2, .slice b3 0 d3] 30 (0, 0))) (by exact ⟨HQ.out.1.drewN _, HQ.out.2⟩) (fun W2 HW2 => ?_)
      have H2 := Lib.hid HW2
      clear HW2 y0 gb hlb
      go_wp2_with fail
      go_roundw
      case rel => exact ⟨j + 1, hlt, by go_num, H2⟩
      case measure => simp [intOf]; omega
    · obtain rfl : j = placeF l nm := by omega
      have HEND : Hid (l[placeF l nm]? = some nm ∧ insF l nm = l ∨ (l[placeF l nm]? ≠ some nm ∧ insF l nm = l.take (placeF l nm) ++ [nm] ++ l.drop (placeF l nm))) := Lib.hid (by
        unfold insF
        by_cases e : l[placeF l nm]? = some nm
        · exact .inl ⟨e, if_pos e⟩
        · exact .inr ⟨e, if_neg e⟩)
      have HPA := Lib.hid (fun h => place_at (l := l) (nm := nm) h)
      generalize placeF l nm = j at *
      rcases HROW.out with ⟨_, _, hl⟩ | ⟨⟨gk, ok, rfl⟩, hpos, hsl⟩
      · exact absurd hl HNE.out
      · have HSL := Lib.hid hsl
        have k1 : (0 : Int) ≤ (j : Int) := by omega
        have hcl : l.length ≤ c := by obtain ⟨_, _, hv, hle, _⟩ := hsl.shape; cases hv; exact hle
        have k2 : (j : Int) ≤ (c : Int) := by omega
        have k3 : (j : Int) ≤ (l.length : Int) := by omega
        clear hsl
        by_cases hjl : j = l.length
        · have hd : decide ((j : Int) < (l.length : Int)) = false := decide_eq_false (by omega)
          have he : ((j : Int) == (l.length : Int)) = true := by rw [beq_iff_eq]; omega
          have hd2 : decide (j < l.length) = false := decide_eq_false (by omega)
          have hd3 : ¬ j < l.length := by omega
          have he2 : (j == l.length) = true := by rw [beq_iff_eq]; omega
          have HINS : Hid (insF l nm = l.take j ++ [nm] ++ l.drop j) := Lib.hid (by
            rcases HEND.out with ⟨h, _⟩ | ⟨_, h⟩
            · rw [List.getElem?_eq_none (by omega)] at h; cases h
            · exact h)
          clear HEND HPA hjl
          go_upto_region 3 with fail
          go_quiet (fail)
          refine ‹∀ (a : Act) (w : World), _ → _› _ _ ?_
          refine abs_world (F := fun W => Keeps [] w W ∧ W.heap[w.heap.size]? = some (.cells #[.string varS, .string nm, .int .i64 0, .bool false, .int .i64 0, .string eS, .slice b1 0 d1, .slice b2 0 d2, .slice b3 0 d3] 30 (0, 0))) (by exact ⟨HQ.out.1.drewN _, HQ.out.2⟩) (fun W4 HW4 => ?_)
          have H4 := Lib.hid HW4
          clear HW4 gb hlb
          have gb := cell_blk H4.out.2
          have hlb := hk_lt H4.out.2
          go_upto_region 5 with fail
          go_quiet (fail)
          refine ‹∀ (a : Act) (w : World), _ → _› _ _ ?_
          refine abs_world (F := fun W => Keeps [] w W ∧ W.heap[w.heap.size]? = some (.cells #[.string varS, .string nm, .int .i64 0, .bool false, .int .i64 0, .string eS, .slice b1 0 d1, .slice b2 0 d2, .slice b3 0 d3] 30 (0, 0))) (by exact ⟨H4.out.1.drewN _, H4.out.2⟩) (fun W5 HW5 => ?_)
          have H5 := Lib.hid HW5
          clear HW5 gb hlb
          have gb := cell_blk H5.out.2
          have hlb := hk_lt H5.out.2
          go_upto_region 6 with fail
          generalize hW : W5 = W2 at *
          clear hW
          have BW := Lib.hid H5.out.1.nil_below
          have P1 := Lib.hid H5.out.2
          have L1 : Hid (w.heap.size < W2.heap.size) := Lib.hid (hk_lt H5.out.2)
          have HZ := L1
          have q0 := gb
          have HS1 : Hid (∀ W : World, Below w.heap.size w W → Sl W (fun _ => True) 1 (.slice (some ⟨gk, ok, none⟩) j c) j ((l.map Value.string).take (j * 1))) := Lib.hid (fun W hb => (HSL.out.keep (kc_below hb)).take (k := j) hpl)
          have HS2 : Hid (∀ W : World, Below w.heap.size w W → Sl W (fun _ => True) 1 (.slice (if c = j then some ⟨gk, ok, none⟩ else some ⟨gk, ok + j, none⟩) (l.length - j) (c - j)) (l.length - j) ((l.map Value.string).drop j)) := Lib.hid (fun W hb => by have := sl_drop2 (HSL.out.keep (kc_below hb)) (k := j) hpl; rw [Nat.mul_one] at this; exact this)
          have HO1 := Lib.hid (fun u (hu : u ∈ (l.map Value.string).take (j * 1)) => one_str _ u (List.mem_of_mem_take hu))
          have HO2 := Lib.hid (fun u (hu : u ∈ (l.map Value.string).drop j) => one_str _ u (List.mem_of_mem_drop hu))
          have HE1 := Lib.hid (one_str [nm])
          clear H5 gb hlb
          go_region_held3 (fun W' => (W'.heap[w.heap.size]? = some (.cells #[.string varS, .string nm, .int .i64 0, .bool false, .int .i64 0, .string eS, .slice b1 0 d1, .slice b2 0 d2, .slice b3 0 d3] 30 (0, 0)) ∧ ∀ jj, W'.cell? ⟨w.heap.size, jj, none⟩ = (#[.string varS, .string nm, .int .i64 0, .bool false, .int .i64 0, .string eS, .slice b1 0 d1, .slice b2 0 d2, .slice b3 0 d3] : Array Value)[jj]?)) ((refine blk_of ?_; ((repeat (first | with_reducible exact P1.out | with_reducible exact HK1.out _ _ L1.out P1.out | with_reducible exact HK2.out _ _ L1.out P1.out | with_reducible exact HK3.out _ _ L1.out P1.out | with_reducible exact new_blk _ _ | with_reducible exact new_blk1 _ _ _ | with_reducible exact new_blk2 _ _ _ _ | with_reducible refine hk_drew ?_ | with_reducible refine hk_alloc ?_ _ | with_reducible refine hk_set ?_ (by dsimp only; omega) _)); done))) (first | (refine step_append_sl rfl _ _ _ rfl rfl elem_st (v := .slice (some ⟨W2.heap.size, 0, none⟩) 0 0) (base := W2.heap.size) rfl rfl (own_here _ (by ((repeat (first | with_reducible exact new_blk _ _ | with_reducible exact new_blk1 _ _ _ | with_reducible exact new_blk2 _ _ _ _ | with_reducible refine hk_drew ?_ | with_reducible refine hk_alloc ?_ _ | with_reducible refine hk_set ?_ (by dsimp only; omega) _)); done)) (by omega)) (HS1.out _ (by ((repeat (first | with_reducible exact BW.out | with_reducible exact Below.refl _ _ | with_reducible refine bl_drew ?_ | with_reducible refine bl_alloc ?_ _ | with_reducible refine bl_set ?_ (by dsimp only; omega) _)); done))) HO1.out (by unfold maxLen; omega) (by omega) (by (try simp only [World.size_drew, World.size_alloc]); omega) ?_; intro v1 w1 ho hg hb; rw [Nat.zero_add, List.nil_append] at ho; obtain ⟨vA, vc, hv⟩ := own_slice ho; subst hv; have HB1 : Hid (Below w.heap.size w w1) := Lib.hid (Below.grown (by ((repeat (first | with_reducible exact BW.out | with_reducible exact Below.refl _ _ | with_reducible refine bl_drew ?_ | with_reducible refine bl_alloc ?_ _ | with_reducible refine bl_set ?_ (by dsimp only; omega) _)); done)) hg (by have := HZ.out; (try simp only [World.size_drew, World.size_alloc]); omega) (fun k e => by have := HZ.out; simp [Value.ownBlock] at e; omega)); have RO1 := Lib.hid ho; have S1 := Lib.hid hg.size; have HK1 : Hid (∀ b o, b < W2.heap.size → W2.heap[b]? = some o → w1.heap[b]? = some o) := Lib.hid (fun b o hb2 hx => hk_grow (by ((repeat (first | with_reducible exact hx | with_reducible exact new_blk _ _ | with_reducible exact new_blk1 _ _ _ | with_reducible exact new_blk2 _ _ _ _ | with_reducible refine hk_drew ?_ | with_reducible refine hk_alloc ?_ _ | with_reducible refine hk_set ?_ (by dsimp only; omega) _)); done)) hg (by simp [Value.ownBlock] <;> omega)); (first | (refine have_then (p := w1.heap[W2.heap.size + 1]? = some (.cells #[.string nm] 9 (0, 0))) ?_ ?_; (focus (refine hk_grow ?_ hg ?_; (focus ((repeat (first | with_reducible exact new_blk _ _ | with_reducible exact new_blk1 _ _ _ | with_reducible exact new_blk2 _ _ _ _ | with_reducible refine hk_drew ?_ | with_reducible refine hk_alloc ?_ _ | with_reducible refine hk_set ?_ (by dsimp only; omega) _)); done)); (focus simp [Value.ownBlock]))); intro rr; have RR := Lib.hid rr; clear rr) | skip); clear ho hg hb) | (refine step_append_sl rfl _ _ _ rfl rfl elem_st (v := .slice (some ⟨W2.heap.size + 1, 0, none⟩) 0 0) (base := W2.heap.size) rfl rfl (own_here _ (by ((repeat (first | with_reducible exact new_blk _ _ | with_reducible exact new_blk1 _ _ _ | with_reducible exact new_blk2 _ _ _ _ | with_reducible refine hk_drew ?_ | with_reducible refine hk_alloc ?_ _ | with_reducible refine hk_set ?_ (by dsimp only; omega) _)); done)) (by omega)) (HS1.out _ (by ((repeat (first | with_reducible exact BW.out | with_reducible exact Below.refl _ _ | with_reducible refine bl_drew ?_ | with_reducible refine bl_alloc ?_ _ | with_reducible refine bl_set ?_ (by dsimp only; omega) _)); done))) HO1.out (by unfold maxLen; omega) (by omega) (by (try simp only [World.size_drew, World.size_alloc]); omega) ?_; intro v1 w1 ho hg hb; rw [Nat.zero_add, List.nil_append] at ho; obtain ⟨vA, vc, hv⟩ := own_slice ho; subst hv; have HB1 : Hid (Below w.heap.size w w1) := Lib.hid (Below.grown (by ((repeat (first | with_reducible exact BW.out | with_reducible exact Below.refl _ _ | with_reducible refine bl_drew ?_ | with_reducible refine bl_alloc ?_ _ | with_reducible refine bl_set ?_ (by dsimp only; omega) _)); done)) hg (by have := HZ.out; (try simp only [World.size_drew, World.size_alloc]); omega) (fun k e => by have := HZ.out; simp [Value.ownBlock] at e; omega)); have RO1 := Lib.hid ho; have S1 := Lib.hid hg.size; have HK1 : Hid (∀ b o, b < W2.heap.size → W2.heap[b]? = some o → w1.heap[b]? = some o) := Lib.hid (fun b o hb2 hx => hk_grow (by ((repeat (first | with_reducible exact hx | with_reducible exact new_blk _ _ | with_reducible exact new_blk1 _ _ _ | with_reducible exact new_blk2 _ _ _ _ | with_reducible refine hk_drew ?_ | with_reducible refine hk_alloc ?_ _ | with_reducible refine hk_set ?_ (by dsimp only; omega) _)); done)) hg (by simp [Value.ownBlock] <;> omega)); (first | (refine have_then (p := w1.heap[W2.heap.size]? = some (.cells #[.string nm] 9 (0, 0))) ?_ ?_; (focus (refine hk_grow ?_ hg ?_; (focus ((repeat (first | with_reducible exact new_blk _ _ | with_reducible exact new_blk1 _ _ _ | with_reducible exact new_blk2 _ _ _ _ | with_reducible refine hk_drew ?_ | with_reducible refine hk_alloc ?_ _ | with_reducible refine hk_set ?_ (by dsimp only; omega) _)); done)); (focus simp [Value.ownBlock]))); intro rr; have RR := Lib.hid rr; clear rr) | skip); clear ho hg hb) | (refine step_append_sl rfl _ _ _ rfl rfl elem_st (v := .slice vA j vc) (base := W2.heap.size) (x := .slice (some ⟨w1.heap.size, 0, none⟩) 1 1) (S := fun _ => True) rfl rfl (RO1.out.alloc _) (Sl.one_of (new_blk _ _) trivial rfl) (by exact HE1.out) (by unfold maxLen; omega) (by omega) (by have := S1.out; (try simp only [World.size_drew, World.size_alloc] at *); omega) ?_; intro v2 w2 ho hg hb; obtain ⟨vB, vd, hv⟩ := own_slice ho; subst hv; have HB2 : Hid (Below w.heap.size w w2) := Lib.hid (Below.grown (by ((repeat (first | with_reducible exact HB1.out | with_reducible exact Below.refl _ _ | with_reducible refine bl_drew ?_ | with_reducible refine bl_alloc ?_ _ | with_reducible refine bl_set ?_ (by dsimp only; omega) _)); done)) hg (by have := HB1.out.size; (try simp only [World.size_drew, World.size_alloc]); omega) (fun k e => by have := (RO1.out.lt k e).1; have := HZ.out; omega)); have RO2 := Lib.hid ho; have S2 : Hid (W2.heap.size ≤ w2.heap.size) := Lib.hid (by have := S1.out; have := hg.size; (try simp only [World.size_drew, World.size_alloc] at *); omega); have HK2 : Hid (∀ b o, b < W2.heap.size → W2.heap[b]? = some o → w2.heap[b]? = some o) := Lib.hid (fun b o hb2 hx => hk_grow (by ((repeat (first | with_reducible exact HK1.out b o hb2 hx | with_reducible exact new_blk _ _ | with_reducible exact new_blk1 _ _ _ | with_reducible exact new_blk2 _ _ _ _ | with_reducible refine hk_drew ?_ | with_reducible refine hk_alloc ?_ _ | with_reducible refine hk_set ?_ (by dsimp only; omega) _)); done)) hg (fun e => by have := (RO1.out.lt _ e.symm).1; omega)); clear ho hg hb) | (refine step_append_sl rfl _ _ _ rfl rfl elem_st (v := .slice vA j vc) (base := W2.heap.size) (x := .slice (some ⟨W2.heap.size, 0, none⟩) 1 1) (S := fun _ => True) rfl rfl (RO1.out) (Sl.one_of (RR.out) trivial rfl) (by exact HE1.out) (by unfold maxLen; omega) (by omega) (by have := S1.out; (try simp only [World.size_drew, World.size_alloc] at *); omega) ?_; intro v2 w2 ho hg hb; obtain ⟨vB, vd, hv⟩ := own_slice ho; subst hv; have HB2 : Hid (Below w.heap.size w w2) := Lib.hid (Below.grown (by ((repeat (first | with_reducible exact HB1.out | with_reducible exact Below.refl _ _ | with_reducible refine bl_drew ?_ | with_reducible refine bl_alloc ?_ _ | with_reducible refine bl_set ?_ (by dsimp only; omega) _)); done)) hg (by have := HB1.out.size; (try simp only [World.size_drew, World.size_alloc]); omega) (fun k e => by have := (RO1.out.lt k e).1; have := HZ.out; omega)); have RO2 := Lib.hid ho; have S2 : Hid (W2.heap.size ≤ w2.heap.size) := Lib.hid (by have := S1.out; have := hg.size; (try simp only [World.size_drew, World.size_alloc] at *); omega); have HK2 : Hid (∀ b o, b < W2.heap.size → W2.heap[b]? = some o → w2.heap[b]? = some o) := Lib.hid (fun b o hb2 hx => hk_grow (by ((repeat (first | with_reducible exact HK1.out b o hb2 hx | with_reducible exact new_blk _ _ | with_reducible exact new_blk1 _ _ _ | with_reducible exact new_blk2 _ _ _ _ | with_reducible refine hk_drew ?_ | with_reducible refine hk_alloc ?_ _ | with_reducible refine hk_set ?_ (by dsimp only; omega) _)); done)) hg (fun e => by have := (RO1.out.lt _ e.symm).1; omega)); clear ho hg hb) | (refine step_append_sl rfl _ _ _ rfl rfl elem_st (v := .slice vA j vc) (base := W2.heap.size) (x := .slice (some ⟨W2.heap.size + 1, 0, none⟩) 1 1) (S := fun _ => True) rfl rfl (RO1.out) (Sl.one_of (RR.out) trivial rfl) (by exact HE1.out) (by unfold maxLen; omega) (by omega) (by have := S1.out; (try simp only [World.size_drew, World.size_alloc] at *); omega) ?_; intro v2 w2 ho hg hb; obtain ⟨vB, vd, hv⟩ := own_slice ho; subst hv; have HB2 : Hid (Below w.heap.size w w2) := Lib.hid (Below.grown (by ((repeat (first | with_reducible exact HB1.out | with_reducible exact Below.refl _ _ | with_reducible refine bl_drew ?_ | with_reducible refine bl_alloc ?_ _ | with_reducible refine bl_set ?_ (by dsimp only; omega) _)); done)) hg (by have := HB1.out.size; (try simp only [World.size_drew, World.size_alloc]); omega) (fun k e => by have := (RO1.out.lt k e).1; have := HZ.out; omega)); have RO2 := Lib.hid ho; have S2 : Hid (W2.heap.size ≤ w2.heap.size) := Lib.hid (by have := S1.out; have := hg.size; (try simp only [World.size_drew, World.size_alloc] at *); omega); have HK2 : Hid (∀ b o, b < W2.heap.size → W2.heap[b]? = some o → w2.heap[b]? = some o) := Lib.hid (fun b o hb2 hx => hk_grow (by ((repeat (first | with_reducible exact HK1.out b o hb2 hx | with_reducible exact new_blk _ _ | with_reducible exact new_blk1 _ _ _ | with_reducible exact new_blk2 _ _ _ _ | with_reducible refine hk_drew ?_ | with_reducible refine hk_alloc ?_ _ | with_reducible refine hk_set ?_ (by dsimp only; omega) _)); done)) hg (fun e => by have := (RO1.out.lt _ e.symm).1; omega)); clear ho hg hb) | (refine step_append_sl rfl _ _ _ rfl rfl elem_st (v := .slice vB (j + 1) vd) (base := W2.heap.size)  rfl rfl RO2.out (HS2.out _ HB2.out) HO2.out (by unfold maxLen; omega) (by omega) S2.out ?_; intro v3 w3 ho hg hb; obtain ⟨vE, ve, hv⟩ := own_slice ho; subst hv; have HB3 : Hid (Below w.heap.size w w3) := Lib.hid (HB2.out.grown hg HB2.out.size (fun k e => by have := (RO2.out.lt k e).1; have := HZ.out; omega)); have RO3 := Lib.hid ho; have HK3 : Hid (∀ b o, b < W2.heap.size → W2.heap[b]? = some o → w3.heap[b]? = some o) := Lib.hid (fun b o hb2 hx => hk_grow (HK2.out b o hb2 hx) hg (fun e => by have := (RO2.out.lt _ e.symm).1; omega)); clear ho hg hb))
          all_goals
            refine ‹∀ (a : Act) (w : World), _ → _› _ _ ?_
            refine abs_world (F := fun W => Keeps [] w W ∧ RowS W vE ve (l.take j ++ [nm] ++ l.drop j) ∧ W.heap[w.heap.size]? = some (.cells #[.string varS, .string nm, .int .i64 0, .bool false, .int .i64 0, .string eS, .slice b1 0 d1, .slice b2 0 d2, .slice b3 0 d3] 30 (0, 0))) (by first | exact ⟨Keeps.below HB3.out, row_ins hpl RO3.out, HK3.out _ _ L1.out P1.out⟩ | exact ⟨(Keeps.below HB3.out).drew, (row_ins hpl RO3.out).keep ((Keeps.refl _ _).drew), HK3.out _ _ L1.out P1.out⟩) (fun W9 HW9 => ?_)
            have H9 := Lib.hid HW9
            have hIN := HINS.out
            have hLE : j + 1 + (l.length - j) = (insF l nm).length := by rw [hIN]; simp; omega
            rw [← hIN] at HW9
            rw [hLE]
            have HF0 := Lib.hid HW9
            clear HW9 H9 hIN hLE
            generalize insF l nm = l2 at *
            have gb7 := cell_blk HF0.out.2.2
            go_wp2_with fail
            all_goals
              clear gb7
              refine wp_loop_once ?_
              go_wp2_with fail
            all_goals
              go_ret
              exact ⟨vE, ve, rfl, HF0.out.2.1, HF0.out.1⟩
        · have hlt2 : j < l.length := by omega
          have HY : Hid (∀ W : World, Keeps [] w W → W.cell? ⟨gk, ok + j, none⟩ = some (.string l[j])) := Lib.hid (fun W k => by
            obtain ⟨g', o', c', hv, _, _, _, hcells⟩ := (HSL.out.keep (kc_keeps k fun _ _ => by simp)).at hpos
            cases hv
            exact hcells j (.string l[j]) (by rw [List.getElem?_map, List.getElem?_eq_getElem hlt2]; rfl))
          have y0 := HY.out wr HQ.out.1
          have hls : Op.bytesLess l[j].toList nm.toList = false := HPA.out hlt2
          have hd : decide ((j : Int) < (l.length : Int)) = true := decide_eq_true (by omega)
          have he : ((j : Int) == (l.length : Int)) = false := by rw [beq_eq_false_iff_ne]; omega
          have he2 : (j == l.length) = false := by rw [beq_eq_false_iff_ne]; omega
          by_cases heq : l[j] = nm
          · have hq := str_beq heq
            have HI2 : Hid (insF l nm = l) := Lib.hid (by
              rcases HEND.out with ⟨_, h⟩ | ⟨h, _⟩
              · exact h
              · rw [List.getElem?_eq_getElem hlt2, heq] at h; exact absurd rfl h)
            clear HEND HPA heq
            go_upto_region 3 with fail
            go_quiet (fail)
            refine ‹∀ (a : Act) (w : World), _ → _› _ _ ?_
            refine abs_world (F := fun W => Keeps [] w W ∧ W.heap[w.heap.size]? = some (.cells #[.string varS, .string nm, .int .i64 0, .bool false, .int .i64 0, .string eS, .slice b1 0 d1, .slice b2 0 d2, .slice b3 0 d3] 30 (0, 0))) (by exact ⟨HQ.out.1.drewN _, HQ.out.2⟩) (fun W4 HW4 => ?_)
            have H4 := Lib.hid HW4
            clear HW4 gb hlb y0
            have gb := cell_blk H4.out.2
            have hlb := hk_lt H4.out.2
            have y0 := HY.out W4 H4.out.1
            go_upto_region 5 with fail
            go_quiet (fail)
            refine ‹∀ (a : Act) (w : World), _ → _› _ _ ?_
            refine abs_world (F := fun W => Keeps [] w W ∧ W.heap[w.heap.size]? = some (.cells #[.string varS, .string nm, .int .i64 0, .bool false, .int .i64 0, .string eS, .slice b1 0 d1, .slice b2 0 d2, .slice b3 0 d3] 30 (0, 0))) (by exact ⟨H4.out.1.drewN _, H4.out.2⟩) (fun W5 HW5 => ?_)
            have H5 := Lib.hid HW5
            clear HW5 gb hlb y0
            have gb := cell_blk H5.out.2
            have hlb := hk_lt H5.out.2
            have y0 := HY.out W5 H5.out.1
            have HF0 : Hid (Keeps [] w W5 ∧ RowS W5 (some ⟨gk, ok, none⟩) c l ∧ W5.heap[w.heap.size]? = some (.cells #[.string varS, .string nm, .int .i64 0, .bool false, .int .i64 0, .string eS, .slice b1 0 d1, .slice b2 0 d2, .slice b3 0 d3] 30 (0, 0))) := Lib.hid ⟨H5.out.1, HROW.out.keep H5.out.1, H5.out.2⟩
            clear y0
            generalize insF l nm = l2 at *
            obtain rfl : l2 = l := HI2.out
            have gb7 := cell_blk HF0.out.2.2
            go_wp2_with fail
            all_goals
              clear gb7
              refine wp_loop_once ?_
              go_wp2_with fail
            all_goals
              go_ret
              exact ⟨(some ⟨gk, ok, none⟩), c, rfl, HF0.out.2.1, HF0.out.1⟩
          · have hq := str_bne heq
            have HINS : Hid (insF l nm = l.take j ++ [nm] ++ l.drop j) := Lib.hid (by
              rcases HEND.out with ⟨h, _⟩ | ⟨_, h⟩
              · rw [List.getElem?_eq_getElem hlt2] at h; exact absurd (Option.some.inj h) heq
              · exact h)
            clear HEND HPA heq
            go_upto_region 3 with fail
            go_quiet (fail)
            refine ‹∀ (a : Act) (w : World), _ → _› _ _ ?_
            refine abs_world (F := fun W => Keeps [] w W ∧ W.heap[w.heap.size]? = some (.cells #[.string varS, .string nm, .int .i64 0, .bool false, .int .i64 0, .string eS, .slice b1 0 d1, .slice b2 0 d2, .slice b3 0 d3] 30 (0, 0))) (by exact ⟨HQ.out.1.drewN _, HQ.out.2⟩) (fun W4 HW4 => ?_)
            have H4 := Lib.hid HW4
            clear HW4 gb hlb y0
            have gb := cell_blk H4.out.2
            have hlb := hk_lt H4.out.2
            have y0 := HY.out W4 H4.out.1
            go_upto_region 5 with fail
            go_quiet (fail)
            refine ‹∀ (a : Act) (w : World), _ → _› _ _ ?_
            refine abs_world (F := fun W => Keeps [] w W ∧ W.heap[w.heap.size]? = some (.cells #[.string varS, .string nm, .int .i64 0, .bool false, .int .i64 0, .string eS, .slice b1 0 d1, .slice b2 0 d2, .slice b3 0 d3] 30 (0, 0))) (by exact ⟨H4.out.1.drewN _, H4.out.2⟩) (fun W5 HW5 => ?_)
            have H5 := Lib.hid HW5
            clear HW5 gb hlb y0
            have gb := cell_blk H5.out.2
            have hlb := hk_lt H5.out.2
            have y0 := HY.out W5 H5.out.1
            clear y0
            go_upto_region 6 with fail
            generalize hW : W5 = W2 at *
            clear hW
            have BW := Lib.hid H5.out.1.nil_below
            have P1 := Lib.hid H5.out.2
            have L1 : Hid (w.heap.size < W2.heap.size) := Lib.hid (hk_lt H5.out.2)
            have HZ := L1
            have q0 := gb
            have HS1 : Hid (∀ W : World, Below w.heap.size w W → Sl W (fun _ => True) 1 (.slice (some ⟨gk, ok, none⟩) j c) j ((l.map Value.string).take (j * 1))) := Lib.hid (fun W hb => (HSL.out.keep (kc_below hb)).take (k := j) hpl)
            have HS2 : Hid (∀ W : World, Below w.heap.size w W → Sl W (fun _ => True) 1 (.slice (if c = j then some ⟨gk, ok, none⟩ else some ⟨gk, ok + j, none⟩) (l.length - j) (c - j)) (l.length - j) ((l.map Value.string).drop j)) := Lib.hid (fun W hb => by have := sl_drop2 (HSL.out.keep (kc_below hb)) (k := j) hpl; rw [Nat.mul_one] at this; exact this)
            have HO1 := Lib.hid (fun u (hu : u ∈ (l.map Value.string).take (j * 1)) => one_str _ u (List.mem_of_mem_take hu))
            have HO2 := Lib.hid (fun u (hu : u ∈ (l.map Value.string).drop j) => one_str _ u (List.mem_of_mem_drop hu))
            have HE1 := Lib.hid (one_str [nm])
            clear H5 gb hlb
            go_region_held3 (fun W' => (W'.heap[w.heap.size]? = some (.cells #[.string varS, .string nm, .int .i64 0, .bool false, .int .i64 0, .string eS, .slice b1 0 d1, .slice b2 0 d2, .slice b3 0 d3] 30 (0, 0)) ∧ ∀ jj, W'.cell? ⟨w.heap.size, jj, none⟩ = (#[.string varS, .string nm, .int .i64 0, .bool false, .int .i64 0, .string eS, .slice b1 0 d1, .slice b2 0 d2, .slice b3 0 d3] : Array Value)[jj]?)) ((refine blk_of ?_; ((repeat (first | with_reducible exact P1.out | with_reducible exact HK1.out _ _ L1.out P1.out | with_reducible exact HK2.out _ _ L1.out P1.out | with_reducible exact HK3.out _ _ L1.out P1.out | with_reducible exact new_blk _ _ | with_reducible exact new_blk1 _ _ _ | with_reducible exact new_blk2 _ _ _ _ | with_reducible refine hk_drew ?_ | with_reducible refine hk_alloc ?_ _ | with_reducible refine hk_set ?_ (by dsimp only; omega) _)); done))) (first | (refine step_append_sl rfl _ _ _ rfl rfl elem_st (v := .slice (some ⟨W2.heap.size, 0, none⟩) 0 0) (base := W2.heap.size) rfl rfl (own_here _ (by ((repeat (first | with_reducible exact new_blk _ _ | with_reducible exact new_blk1 _ _ _ | with_reducible exact new_blk2 _ _ _ _ | with_reducible refine hk_drew ?_ | with_reducible refine hk_alloc ?_ _ | with_reducible refine hk_set ?_ (by dsimp only; omega) _)); done)) (by omega)) (HS1.out _ (by ((repeat (first | with_reducible exact BW.out | with_reducible exact Below.refl _ _ | with_reducible refine bl_drew ?_ | with_reducible refine bl_alloc ?_ _ | with_reducible refine bl_set ?_ (by dsimp only; omega) _)); done))) HO1.out (by unfold maxLen; omega) (by omega) (by (try simp only [World.size_drew, World.size_alloc]); omega) ?_; intro v1 w1 ho hg hb; rw [Nat.zero_add, List.nil_append] at ho; obtain ⟨vA, vc, hv⟩ := own_slice ho; subst hv; have HB1 : Hid (Below w.heap.size w w1) := Lib.hid (Below.grown (by ((repeat (first | with_reducible exact BW.out | with_reducible exact Below.refl _ _ | with_reducible refine bl_drew ?_ | with_reducible refine bl_alloc ?_ _ | with_reducible refine bl_set ?_ (by dsimp only; omega) _)); done)) hg (by have := HZ.out; (try simp only [World.size_drew, World.size_alloc]); omega) (fun k e => by have := HZ.out; simp [Value.ownBlock] at e; omega)); have RO1 := Lib.hid ho; have S1 := Lib.hid hg.size; have HK1 : Hid (∀ b o, b < W2.heap.size → W2.heap[b]? = some o → w1.heap[b]? = some o) := Lib.hid (fun b o hb2 hx => hk_grow (by ((repeat (first | with_reducible exact hx | with_reducible exact new_blk _ _ | with_reducible exact new_blk1 _ _ _ | with_reducible exact new_blk2 _ _ _ _ | with_reducible refine hk_drew ?_ | with_reducible refine hk_alloc ?_ _ | with_reducible refine hk_set ?_ (by dsimp only; omega) _)); done)) hg (by simp [Value.ownBlock] <;> omega)); (first | (refine have_then (p := w1.heap[W2.heap.size + 1]? = some (.cells #[.string nm] 9 (0, 0))) ?_ ?_; (focus (refine hk_grow ?_ hg ?_; (focus ((repeat (first | with_reducible exact new_blk _ _ | with_reducible exact new_blk1 _ _ _ | with_reducible exact new_blk2 _ _ _ _ | with_reducible refine hk_drew ?_ | with_reducible refine hk_alloc ?_ _ | with_reducible refine hk_set ?_ (by dsimp only; omega) _)); done)); (focus simp [Value.ownBlock]))); intro rr; have RR := Lib.hid rr; clear rr) | skip); clear ho hg hb) | (refine step_append_sl rfl _ _ _ rfl rfl elem_st (v := .slice (some ⟨W2.heap.size + 1, 0, none⟩) 0 0) (base := W2.heap.size) rfl rfl (own_here _ (by ((repeat (first | with_reducible exact new_blk _ _ | with_reducible exact new_blk1 _ _ _ | with_reducible exact new_blk2 _ _ _ _ | with_reducible refine hk_drew ?_ | with_reducible refine hk_alloc ?_ _ | with_reducible refine hk_set ?_ (by dsimp only; omega) _)); done)) (by omega)) (HS1.out _ (by ((repeat (first | with_reducible exact BW.out | with_reducible exact Below.refl _ _ | with_reducible refine bl_drew ?_ | with_reducible refine bl_alloc ?_ _ | with_reducible refine bl_set ?_ (by dsimp only; omega) _)); done))) HO1.out (by unfold maxLen; omega) (by omega) (by (try simp only [World.size_drew, World.size_alloc]); omega) ?_; intro v1 w1 ho hg hb; rw [Nat.zero_add, List.nil_append] at ho; obtain ⟨vA, vc, hv⟩ := own_slice ho; subst hv; have HB1 : Hid (Below w.heap.size w w1) := Lib.hid (Below.grown (by ((repeat (first | with_reducible exact BW.out | with_reducible exact Below.refl _ _ | with_reducible refine bl_drew ?_ | with_reducible refine bl_alloc ?_ _ | with_reducible refine bl_set ?_ (by dsimp only; omega) _)); done)) hg (by have := HZ.out; (try simp only [World.size_drew, World.size_alloc]); omega) (fun k e => by have := HZ.out; simp [Value.ownBlock] at e; omega)); have RO1 := Lib.hid ho; have S1 := Lib.hid hg.size; have HK1 : Hid (∀ b o, b < W2.heap.size → W2.heap[b]? = some o → w1.heap[b]? = some o) := Lib.hid (fun b o hb2 hx => hk_grow (by ((repeat (first | with_reducible exact hx | with_reducible exact new_blk _ _ | with_reducible exact new_blk1 _ _ _ | with_reducible exact new_blk2 _ _ _ _ | with_reducible refine hk_drew ?_ | with_reducible refine hk_alloc ?_ _ | with_reducible refine hk_set ?_ (by dsimp only; omega) _)); done)) hg (by simp [Value.ownBlock] <;> omega)); (first | (refine have_then (p := w1.heap[W2.heap.size]? = some (.cells #[.string nm] 9 (0, 0))) ?_ ?_; (focus (refine hk_grow ?_ hg ?_; (focus ((repeat (first | with_reducible exact new_blk _ _ | with_reducible exact new_blk1 _ _ _ | with_reducible exact new_blk2 _ _ _ _ | with_reducible refine hk_drew ?_ | with_reducible refine hk_alloc ?_ _ | with_reducible refine hk_set ?_ (by dsimp only; omega) _)); done)); (focus simp [Value.ownBlock]))); intro rr; have RR := Lib.hid rr; clear rr) | skip); clear ho hg hb) | (refine step_append_sl rfl _ _ _ rfl rfl elem_st (v := .slice vA j vc) (base := W2.heap.size) (x := .slice (some ⟨w1.heap.size, 0, none⟩) 1 1) (S := fun _ => True) rfl rfl (RO1.out.alloc _) (Sl.one_of (new_blk _ _) trivial rfl) (by exact HE1.out) (by unfold maxLen; omega) (by omega) (by have := S1.out; (try simp only [World.size_drew, World.size_alloc] at *); omega) ?_; intro v2 w2 ho hg hb; obtain ⟨vB, vd, hv⟩ := own_slice ho; subst hv; have HB2 : Hid (Below w.heap.size w w2) := Lib.hid (Below.grown (by ((repeat (first | with_reducible exact HB1.out | with_reducible exact Below.refl _ _ | with_reducible refine bl_drew ?_ | with_reducible refine bl_alloc ?_ _ | with_reducible refine bl_set ?_ (by dsimp only; omega) _)); done)) hg (by have := HB1.out.size; (try simp only [World.size_drew, World.size_alloc]); omega) (fun k e => by have := (RO1.out.lt k e).1; have := HZ.out; omega)); have RO2 := Lib.hid ho; have S2 : Hid (W2.heap.size ≤ w2.heap.size) := Lib.hid (by have := S1.out; have := hg.size; (try simp only [World.size_drew, World.size_alloc] at *); omega); have HK2 : Hid (∀ b o, b < W2.heap.size → W2.heap[b]? = some o → w2.heap[b]? = some o) := Lib.hid (fun b o hb2 hx => hk_grow (by ((repeat (first | with_reducible exact HK1.out b o hb2 hx | with_reducible exact new_blk _ _ | with_reducible exact new_blk1 _ _ _ | with_reducible exact new_blk2 _ _ _ _ | with_reducible refine hk_drew ?_ | with_reducible refine hk_alloc ?_ _ | with_reducible refine hk_set ?_ (by dsimp only; omega) _)); done)) hg (fun e => by have := (RO1.out.lt _ e.symm).1; omega)); clear ho hg hb) | (refine step_append_sl rfl _ _ _ rfl rfl elem_st (v := .slice vA j vc) (base := W2.heap.size) (x := .slice (some ⟨W2.heap.size, 0, none⟩) 1 1) (S := fun _ => True) rfl rfl (RO1.out) (Sl.one_of (RR.out) trivial rfl) (by exact HE1.out) (by unfold maxLen; omega) (by omega) (by have := S1.out; (try simp only [World.size_drew, World.size_alloc] at *); omega) ?_; intro v2 w2 ho hg hb; obtain ⟨vB, vd, hv⟩ := own_slice ho; subst hv; have HB2 : Hid (Below w.heap.size w w2) := Lib.hid (Below.grown (by ((repeat (first | with_reducible exact HB1.out | with_reducible exact Below.refl _ _ | with_reducible refine bl_drew ?_ | with_reducible refine bl_alloc ?_ _ | with_reducible refine bl_set ?_ (by dsimp only; omega) _)); done)) hg (by have := HB1.out.size; (try simp only [World.size_drew, World.size_alloc]); omega) (fun k e => by have := (RO1.out.lt k e).1; have := HZ.out; omega)); have RO2 := Lib.hid ho; have S2 : Hid (W2.heap.size ≤ w2.heap.size) := Lib.hid (by have := S1.out; have := hg.size; (try simp only [World.size_drew, World.size_alloc] at *); omega); have HK2 : Hid (∀ b o, b < W2.heap.size → W2.heap[b]? = some o → w2.heap[b]? = some o) := Lib.hid (fun b o hb2 hx => hk_grow (by ((repeat (first | with_reducible exact HK1.out b o hb2 hx | with_reducible exact new_blk _ _ | with_reducible exact new_blk1 _ _ _ | with_reducible exact new_blk2 _ _ _ _ | with_reducible refine hk_drew ?_ | with_reducible refine hk_alloc ?_ _ | with_reducible refine hk_set ?_ (by dsimp only; omega) _)); done)) hg (fun e => by have := (RO1.out.lt _ e.symm).1; omega)); clear ho hg hb) | (refine step_append_sl rfl _ _ _ rfl rfl elem_st (v := .slice vA j vc) (base := W2.heap.size) (x := .slice (some ⟨W2.heap.size + 1, 0, none⟩) 1 1) (S := fun _ => True) rfl rfl (RO1.out) (Sl.one_of (RR.out) trivial rfl) (by exact HE1.out) (by unfold maxLen; omega) (by omega) (by have := S1.out; (try simp only [World.size_drew, World.size_alloc] at *); omega) ?_; intro v2 w2 ho hg hb; obtain ⟨vB, vd, hv⟩ := own_slice ho; subst hv; have HB2 : Hid (Below w.heap.size w w2) := Lib.hid (Below.grown (by ((repeat (first | with_reducible exact HB1.out | with_reducible exact Below.refl _ _ | with_reducible refine bl_drew ?_ | with_reducible refine bl_alloc ?_ _ | with_reducible refine bl_set ?_ (by dsimp only; omega) _)); done)) hg (by have := HB1.out.size; (try simp only [World.size_drew, World.size_alloc]); omega) (fun k e => by have := (RO1.out.lt k e).1; have := HZ.out; omega)); have RO2 := Lib.hid ho; have S2 : Hid (W2.heap.size ≤ w2.heap.size) := Lib.hid (by have := S1.out; have := hg.size; (try simp only [World.size_drew, World.size_alloc] at *); omega); have HK2 : Hid (∀ b o, b < W2.heap.size → W2.heap[b]? = some o → w2.heap[b]? = some o) := Lib.hid (fun b o hb2 hx => hk_grow (by ((repeat (first | with_reducible exact HK1.out b o hb2 hx | with_reducible exact new_blk _ _ | with_reducible exact new_blk1 _ _ _ | with_reducible exact new_blk2 _ _ _ _ | with_reducible refine hk_drew ?_ | with_reducible refine hk_alloc ?_ _ | with_reducible refine hk_set ?_ (by dsimp only; omega) _)); done)) hg (fun e => by have := (RO1.out.lt _ e.symm).1; omega)); clear ho hg hb) | (refine step_append_sl rfl _ _ _ rfl rfl elem_st (v := .slice vB (j + 1) vd) (base := W2.heap.size)  rfl rfl RO2.out (HS2.out _ HB2.out) HO2.out (by unfold maxLen; omega) (by omega) S2.out ?_; intro v3 w3 ho hg hb; obtain ⟨vE, ve, hv⟩ := own_slice ho; subst hv; have HB3 : Hid (Below w.heap.size w w3) := Lib.hid (HB2.out.grown hg HB2.out.size (fun k e => by have := (RO2.out.lt k e).1; have := HZ.out; omega)); have RO3 := Lib.hid ho; have HK3 : Hid (∀ b o, b < W2.heap.size → W2.heap[b]? = some o → w3.heap[b]? = some o) := Lib.hid (fun b o hb2 hx => hk_grow (HK2.out b o hb2 hx) hg (fun e => by have := (RO2.out.lt _ e.symm).1; omega)); clear ho hg hb))
            all_goals
              refine ‹∀ (a : Act) (w : World), _ → _› _ _ ?_
              refine abs_world (F := fun W => Keeps [] w W ∧ RowS W vE ve (l.take j ++ [nm] ++ l.drop j) ∧ W.heap[w.heap.size]? = some (.cells #[.string varS, .string nm, .int .i64 0, .bool false, .int .i64 0, .string eS, .slice b1 0 d1, .slice b2 0 d2, .slice b3 0 d3] 30 (0, 0))) (by first | exact ⟨Keeps.below HB3.out, row_ins hpl RO3.out, HK3.out _ _ L1.out P1.out⟩ | exact ⟨(Keeps.below HB3.out).drew, (row_ins hpl RO3.out).keep ((Keeps.refl _ _).drew), HK3.out _ _ L1.out P1.out⟩) (fun W9 HW9 => ?_)
              have H9 := Lib.hid HW9
              have hIN := HINS.out
              have hLE : j + 1 + (l.length - j) = (insF l nm).length := by rw [hIN]; simp; omega
              rw [← hIN] at HW9
              rw [hLE]
              have HF0 := Lib.hid HW9
              clear HW9 H9 hIN hLE
              generalize insF l nm = l2 at *
              have gb7 := cell_blk HF0.out.2.2
              go_wp2_with fail
              all_goals
                clear gb7
                refine wp_loop_once ?_
                go_wp2_with fail
              all_goals
                go_ret
                exact ⟨vE, ve, rfl, HF0.out.2.1, HF0.out.1⟩
end
theorem names_var (nm : ByteArray) (l : List ByteArray) (a b1 b2 b3 : Option Addr) (c d1 d2 d3 : Nat) (w : World) (hrow : RowS w a c l) (hlen : l.length ≤ 100000) : Calls Tryz.prog 19 #[.slice a l.length c, .agg #[.string varS, .string nm, .int .i64 0, .bool false, .int .i64 0, .string eS, .slice b1 0 d1, .slice b2 0 d2, .slice b3 0 d3]] w (NamesSays (insF l nm) w) := by
  by_cases hl : l = []
  · subst hl
    rcases hrow with ⟨rfl, rfl, _⟩ | ⟨_, h, _⟩
    · exact names_var0 nm b1 b2 b3 d1 d2 d3 w
    · exact absurd h (by simp)
  · exact names_var1 nm l a b1 b2 b3 c d1 d2 d3 w hl hrow hlen
theorem namesL_snoc (l : List ByteArray) : ∀ (xs : List XT) (T : XT), namesL l (xs ++ [T]) = namesF (namesL l xs) T := by
  intro xs
  induction xs generalizing l with
  | nil => intro T; rw [List.nil_append, namesL, namesL, namesL]
  | cons U xs ih => intro T; rw [List.cons_append, namesL, namesL, ih]
theorem namesL_take (l : List ByteArray) (xs : List XT) {j : Nat} (hj : j < xs.length) : namesL l (xs.take (j + 1)) = namesF (namesL l (xs.take j)) xs[j] := by
  rw [List.take_succ_eq_append_getElem hj, namesL_snoc]
theorem namesF_node {T : XT} (l : List ByteArray) (h : T.op ≠ varS) : namesF l T = namesL l T.args := by
  obtain ⟨o, n, v, xs⟩ := T
  have h2 : ¬ o = varS := h
  rw [namesF, if_neg h2]; rfl
theorem cntL_takele (l : List XT) (k : Nat) : XT.cntL (l.take k) ≤ XT.cntL l := by
  induction l generalizing k with
  | nil => simp
  | cons a l ih =>
    cases k with
    | zero => rw [List.take_zero, cntL_nil]; omega
    | succ k => rw [List.take_succ_cons, cntL_cons, cntL_cons]; have := ih k; omega
theorem cntL_take (l : List XT) {k : Nat} (h : k < l.length) : XT.cntL (l.take (k + 1)) = XT.cntL (l.take k) + l[k].cnt := by
  rw [List.take_succ_eq_append_getElem h, cntL_snoc]
set_option maxRecDepth 20000 in
set_option maxHeartbeats 2000000 in
theorem names_any : ∀ (d : Nat) (T : XT) (vi vk va : Value) (S : Nat → Prop) (a : Option Addr) (c : Nat) (l : List ByteArray) (w : World), T.depth ≤ d → XGood T → T.Rep w S vi vk va → RowS w a c l → l.length + T.cnt ≤ 100000 →
    Calls Tryz.prog 19 #[.slice a l.length c, T.agg vi vk va] w (NamesSays (namesF l T) w) := by
  intro d
  induction d with
  | zero => intro T _ _ _ _ _ _ _ _ h; have := depth_pos T; omega
  | succ d ih =>
    intro T vi vk va S a c l w hd hg h hrow hlen
    obtain ⟨a1, c1, a2, c2, a3, c3, rfl, rfl, rfl⟩ := xrep_shape h
    by_cases hv : T.op = varS
    · rcases hg.node with ⟨v, _, rfl⟩ | rfl | ⟨nm, rfl⟩ | hn
      · exact absurd hv (by show litS ≠ varS; decide)
      · exact absurd hv (by show thisS ≠ varS; decide)
      · have e : namesF l (.mk varS nm VT.zero []) = insF l nm := by rw [namesF, if_pos rfl, namesL]
        rw [e]
        exact names_var nm l a a1 a2 a3 c c1 c2 c3 w hrow (by omega)
      · exact absurd hv (rule_ne hn.1).2.2
    · obtain ⟨cs, hsl, hrows⟩ := xrep_row h
      have hlen2 := hg.len
      have HC := Lib.hid (cnt_args T)
      have HI := Lib.hid (fun (j : Nat) (hj : j < T.args.length) (a1 : Option Addr) (c1 : Nat) (a2 : Option Addr) (c2 : Nat) (a3 : Option Addr) (c3 : Nat) (aa : Option Addr) (cc : Nat) (ll : List ByteArray) (W : World) (hr : T.args[j].Rep W S (.slice a1 T.args[j].lit.its.length c1) (.slice a2 T.args[j].lit.ks.length c2) (.slice a3 T.args[j].args.length c3)) (hrw : RowS W aa cc ll) (hl2 : ll.length + T.args[j].cnt ≤ 100000) =>
        ih T.args[j] _ _ _ S aa cc ll W (by have := deepL_mem (List.getElem_mem hj); have := depth_args T; omega) (hg.arg _ (List.getElem_mem hj)) hr hrw hl2)
      have HL := Lib.hid (fun (W : World) (k : Keeps [] w W) => And.intro (hsl.keep (kc_keeps k fun _ _ => by simp)) (nine_go (kc_keeps k fun _ _ => by simp) (fun _ _ _ _ h _ => h) hrows))
      have HK0 : Hid (Keeps [] w (w.alloc (.cells (T.nine (.slice a1 T.lit.its.length c1) (.slice a2 T.lit.ks.length c2) (.slice a3 T.args.length c3)) 30)) ∧ (w.alloc (.cells (T.nine (.slice a1 T.lit.its.length c1) (.slice a2 T.lit.ks.length c2) (.slice a3 T.args.length c3)) 30)).heap[w.heap.size]? = some (.cells (T.nine (.slice a1 T.lit.its.length c1) (.slice a2 T.lit.ks.length c2) (.slice a3 T.args.length c3)) 30 (0, 0))) := Lib.hid ⟨(Keeps.refl _ _).alloc _, new_blk _ _⟩
      have HROW := Lib.hid hrow
      have HNF := Lib.hid (namesF_node l hv)
      have hq : (T.op.toList == [118, 97, 114]) = false := by have h := str_bne hv; rw [toList_data varS] at h; exact h
      clear h hsl hrows hg hd ih hrow hv
      go_enter Tryz.func19, Tryz.ntmps19
      go_wp2_with fail
      go_loopw [0, 54] (fun q v W => ∃ (j : Nat) (aa : Option Addr) (cc : Nat) (ll : List ByteArray), j ≤ T.args.length ∧ v = .int .i64 j ∧ q = .slice aa ll.length cc ∧ Hid (ll = namesL l (T.args.take j) ∧ Keeps [] w W ∧ RowS W aa cc ll ∧ W.heap[w.heap.size]? = some (.cells (T.nine (.slice a1 T.lit.its.length c1) (.slice a2 T.lit.ks.length c2) (.slice a3 T.args.length c3)) 30 (0, 0)))) (fun _ v _ => T.args.length - (intOf v).toNat)
      case atStart => exact ⟨0, a, c, l, Nat.zero_le _, rfl, rfl, Lib.hid ⟨by rw [List.take_zero, namesL], HK0.out.1, HROW.out.keep HK0.out.1, HK0.out.2⟩⟩
      case round =>
        obtain ⟨j, aa, cc, ll, hj, rfl, rfl, HK⟩ := hrel
        have gbx := cell_blk HK.out.2.2.2
        by_cases hlt : j < T.args.length
        · obtain ⟨hsl, hrw⟩ := HL.out _ HK.out.2.1
          obtain ⟨g', o', c', hv, _, _, _, hcells⟩ := hsl.at (by omega)
          cases hv
          obtain ⟨x1, y1, x2, y2, x3, y3, hrep, z0, z1, z2, z3, z4, z5, z6, z7, z8⟩ := nine_cells hrw hcells hlt
          have hcl : ll.length + T.args[j].cnt ≤ 100000 := by
            rw [HK.out.1]
            have e1 := namesL_len (T.args.take j) l
            have e2 := cntL_take T.args hlt
            have e3 := cntL_takele T.args (j + 1)
            have e4 := HC.out
            omega
          have HN := Lib.hid (HI.out j hlt x1 y1 x2 y2 x3 y3 aa cc ll wr hrep HK.out.2.2.1 hcl)
          have HT : Hid (namesF ll T.args[j] = namesL l (T.args.take (j + 1))) := Lib.hid (by rw [namesL_take l T.args hlt, HK.out.1])
          clear hsl hrw hcells hrep hcl
          go_wp2_with (go_at_call 19; refine HN.out.mono ?_; rintro e' w2 hx; obtain ⟨na, nc, rfl, hrow2, hk2⟩ := names_at hx; have H2 := Lib.hid (And.intro (HK.out.2.1.trans hk2) (And.intro hrow2 (hk2.same HK.out.2.2.2))); clear hk2 hrow2 hx)
          go_roundw
          case rel => exact ⟨j + 1, na, nc, _, by omega, by go_num, rfl, Lib.hid ⟨HT.out, H2.out⟩⟩
          case measure => simp [intOf]; omega
        · obtain rfl : j = T.args.length := by omega
          have HE : Hid (ll = namesF l T) := Lib.hid (by rw [HNF.out, HK.out.1, List.take_length])
          have HF := Lib.hid HK.out.2
          clear HK
          obtain rfl : ll = namesF l T := HE.out
          go_wp2_with fail
          go_ret
          exact ⟨aa, cc, rfl, HF.out.2.1, HF.out.1⟩
end Go.Proofs.YtdlkdecigpaaaaaGreatDoor
