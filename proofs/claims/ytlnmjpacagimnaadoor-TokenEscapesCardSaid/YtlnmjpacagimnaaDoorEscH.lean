/- What TokenEscapes' texts are, what All tells of them, and the walk of the text that breaks off (the last part printed by wip/esc_print.py). -/
import Derived.Deep.RegionWith
import Derived.Test.YtlnmjpacagimnaaDoorRaw
import Derived.Test.YtlnmjpacagimnaaDoorLawA
namespace Go.Proofs.YtlnmjpacagimnaaDoor
set_option linter.unusedVariables false
set_option linter.unusedSimpArgs false
open Go.RowKit

theorem nums_app (a b : List Int) : strOfNums a ++ strOfNums b = strOfNums (a ++ b) := by
  apply bytes_ext
  rw [toList_data, toList_data, app_listR]
  simp [strOfNums_data]
where app_listR (a b : ByteArray) : (a ++ b).data.toList = a.data.toList ++ b.data.toList := by simp [ByteArray.data_append]
def ByteL (l : List Int) : Prop := ∀ x ∈ l, 0 ≤ x ∧ x ≤ 255
theorem bt_nums {l : List Int} (h : ByteL l) {k : Nat} {x : Int} (hk : l[k]? = some x) : bt (strOfNums l) (k : Int) = x := by
  have hl : k < l.length := (List.getElem?_eq_some_iff.1 hk).1
  have hx := h x (List.mem_of_getElem? hk)
  rw [bt_getD, strOfNums_data]
  simp only [List.getD_eq_getElem?_getD, List.getElem?_map, hk, Option.map_some, Option.getD_some]
  rw [UInt8.toNat_ofNat_of_lt' (by show _ < 256; omega)]; omega
/-- A hexadecimal digit's byte. -/
def hxC (g : Bool) (d : Int) : Int := if d < 10 then 48 + d else if g then 55 + d else 87 + d
theorem hxC_tab : ∀ g : Bool, ∀ k : Nat, k < 16 → hexV (hxC g k) = k ∧ 48 ≤ hxC g k ∧ hxC g k ≤ 102 := by decide +kernel
theorem hxC_says (g : Bool) {d : Int} (h0 : 0 ≤ d) (h1 : d ≤ 15) : hexV (hxC g d) = d ∧ 48 ≤ hxC g d ∧ hxC g d ≤ 102 := by
  have := hxC_tab g d.toNat (by omega)
  rwa [Int.toNat_of_nonneg h0] at this
/-- Four digits' bytes. -/
def hexL (g : Bool) (n : Int) : List Int := [hxC g (n / 4096 % 16), hxC g (n / 256 % 16), hxC g (n / 16 % 16), hxC g (n % 16)]
theorem hexL_bytes (g : Bool) (n : Int) : ByteL (hexL g n) := by
  intro x hx
  simp only [hexL, List.mem_cons, List.not_mem_nil, or_false] at hx
  rcases hx with rfl | rfl | rfl | rfl
  · have := hxC_says g (d := n / 4096 % 16) (by omega) (by omega); omega
  · have := hxC_says g (d := n / 256 % 16) (by omega) (by omega); omega
  · have := hxC_says g (d := n / 16 % 16) (by omega) (by omega); omega
  · have := hxC_says g (d := n % 16) (by omega) (by omega); omega
/-- Four digits at a place. -/
theorem four_at {s : ByteArray} {i n : Int} {g : Bool} (h0 : 0 ≤ n) (h1 : n < 65536) (hs : i + 4 ≤ s.size) (b0 : bt s i = hxC g (n / 4096 % 16)) (b1 : bt s (i + 1) = hxC g (n / 256 % 16)) (b2 : bt s (i + 2) = hxC g (n / 16 % 16)) (b3 : bt s (i + 3) = hxC g (n % 16)) : four s i = (n, i + 4) := by
  have e0 := (hxC_says g (d := n / 4096 % 16) (by omega) (by omega)).1
  have e1 := (hxC_says g (d := n / 256 % 16) (by omega) (by omega)).1
  have e2 := (hxC_says g (d := n / 16 % 16) (by omega) (by omega)).1
  have e3 := (hxC_says g (d := n % 16) (by omega) (by omega)).1
  have f0 : hexAt s i = n / 4096 % 16 := by unfold hexAt; rw [if_pos (by omega), b0, e0]
  have f1 : hexAt s (i + 1) = n / 256 % 16 := by unfold hexAt; rw [if_pos (by omega), b1, e1]
  have f2 : hexAt s (i + 1 + 1) = n / 16 % 16 := by unfold hexAt; rw [show i + 1 + 1 = i + 2 from by omega, if_pos (by omega), b2, e2]
  have f3 : hexAt s (i + 1 + 1 + 1) = n % 16 := by unfold hexAt; rw [show i + 1 + 1 + 1 = i + 3 from by omega, if_pos (by omega), b3, e3]
  unfold four
  unfold fourF
  rw [f0, if_neg (by omega)]
  unfold fourF
  rw [f1, if_neg (by omega)]
  unfold fourF
  rw [f2, if_neg (by omega)]
  unfold fourF
  rw [f3, if_neg (by omega)]
  unfold fourF
  rw [show ((0 * 16 + n / 4096 % 16) * 16 + n / 256 % 16) * 16 + n / 16 % 16 = n / 16 from by omega]
  congr 1 <;> omega
theorem first_ascii {s : ByteArray} {i : Int} (h : i < s.size) (h1 : bt s i < 128) : first s i = (bt s i, 1) := by
  unfold first
  rw [ok1, if_pos (by simp; omega), cand1]
theorem text_ascii {s : ByteArray} {i : Int} {acc : List Int} {c : Int} (h0 : 0 ≤ i) (h : i < s.size) (hb : bt s i = c) (h1 : 32 ≤ c) (h2 : c < 128) (h3 : c ≠ 34) (h4 : c ≠ 92) : textAt s i acc = textAt s (i + 1) (acc ++ [c]) := by
  rw [textAt_step h0, if_neg (by rw [hb]; omega), if_neg (by rw [hb]; exact h3), if_neg (by rw [hb]; exact h4), first_ascii h (by omega), if_neg (by simp)]
  simp only [hb]
theorem text_quote {s : ByteArray} {i : Int} {acc : List Int} (h0 : 0 ≤ i) (h : i < s.size) (hb : bt s i = 34) : textAt s i acc = (acc, i + 1, 0) := by
  rw [textAt_step h0, if_neg (by rw [hb]; omega), if_pos hb]
theorem text_esc {s : ByteArray} {i : Int} {acc : List Int} {n e c : Int} (h0 : 0 ≤ i) (h : i < s.size) (hb : bt s i = 92) (he : escape s i = (n, e, c)) : textAt s i acc = if c = 0 then textAt s e (acc ++ [n]) else ([], e, c) := by
  rw [textAt_step h0, if_neg (by rw [hb]; omega), if_neg (by rw [hb]; decide), if_pos hb, he]
theorem esc_letter {s : ByteArray} {i : Int} {n : Int} (h : i + 1 < s.size) (hb : escV (bt s (i + 1)) = n) (hn : 0 ≤ n) : escape s i = (n, i + 2, 0) := by
  have e : escAt s (i + 1) = n := by unfold escAt; rw [if_pos h, hb]
  unfold escape; rw [e, if_pos hn]
/-- 'u', and four digits. -/
theorem esc_u {s : ByteArray} {i n : Int} (hs : i + 6 ≤ s.size) (hu : bt s (i + 1) = 117) (hf : four s (i + 2) = (n, i + 6)) (h0 : 0 ≤ n) :
    escape s i = if pointB n = true then (n, i + 6, 0) else if n < 56320 ∧ isAt s (i + 6) 92 = true ∧ isAt s (i + 6 + 1) 117 = true ∧ 56320 ≤ (four s (i + 6 + 2)).1 ∧ (four s (i + 6 + 2)).1 ≤ 57343 then
      (65536 + (n - 55296) * 1024 + (four s (i + 6 + 2)).1 - 56320, (four s (i + 6 + 2)).2, 0) else (0, i, 3) := by
  have e : escAt s (i + 1) = -1 := by unfold escAt; rw [if_pos (by omega), hu]; rfl
  have e2 : isAt s (i + 1) 117 = true := by simp [isAt, hu]; omega
  unfold escape
  rw [e, if_neg (by decide), if_neg (by rw [e2]; simp), hf]
  simp only
  rw [if_neg (by omega)]

def moreL : Nat → List Int
  | 0 => []
  | 1 => [97]
  | 2 => [92, 110]
  | 3 => [92, 117, 48, 48, 52, 49]
  | _ => [92]
def addL : Nat → List Int
  | 0 => []
  | 1 => [97]
  | 2 => [10]
  | _ => [65]
/-- The bytes from a place on. -/
def From (u : ByteArray) (e : Int) (l : List Int) : Prop := (u.size : Int) = e + l.length ∧ ∀ (k : Nat) (x : Int), l[k]? = some x → bt u (e + k) = x
theorem From.at {u : ByteArray} {e : Int} {l : List Int} (h : From u e l) {k : Nat} {x : Int} (hk : l[k]? = some x) (j : Int) (hj : j = e + k) : bt u j = x := hj ▸ h.2 k x hk
theorem From.app {u : ByteArray} {e : Int} {a b : List Int} (h : From u e (a ++ b)) (j : Int) (hj : j = e + a.length) : From u j b := by
  subst hj
  refine ⟨by have := h.1; rw [List.length_append] at this; omega, fun k x hk => ?_⟩
  have := h.2 (a.length + k) x (by rw [List.getElem?_append_right (by omega)]; simpa using hk)
  rw [show e + (a.length : Int) + (k : Int) = e + ((a.length + k : Nat) : Int) from by omega]; exact this
theorem four_from {u : ByteArray} {e n : Int} {g : Bool} {r : List Int} (h : From u e (hexL g n ++ r)) (h0 : 0 ≤ n) (h1 : n < 65536) : four u e = (n, e + 4) := by
  have hz := h.1
  simp only [List.length_append, hexL, List.length_cons, List.length_nil] at hz
  exact four_at h0 h1 (by omega) (h.at (k := 0) rfl _ (by omega)) (h.at (k := 1) rfl _ (by omega)) (h.at (k := 2) rfl _ (by omega)) (h.at (k := 3) rfl _ (by omega))
theorem tail_ok {u : ByteArray} {e : Int} {acc : List Int} {m : Nat} (he : 0 ≤ e) (hm : m ≤ 3) (h : From u e (moreL m ++ [34])) : textAt u e acc = (acc ++ addL m, (u.size : Int), 0) := by
  have hz := h.1
  have h4 : m = 0 ∨ m = 1 ∨ m = 2 ∨ m = 3 := by omega
  rcases h4 with rfl | rfl | rfl | rfl <;> simp only [moreL, List.length_append, List.length_cons, List.length_nil] at hz
  · rw [text_quote he (by omega) (h.at (k := 0) rfl _ (by omega))]
    simp only [addL, List.append_nil]
    rw [show e + 1 = (u.size : Int) from by omega]
  · rw [text_ascii he (by omega) (h.at (k := 0) (x := 97) rfl _ (by omega)) (by decide) (by decide) (by decide) (by decide), text_quote (by omega) (by omega) (h.at (k := 1) rfl _ (by omega))]
    rw [show e + 1 + 1 = (u.size : Int) from by omega]; rfl
  · rw [text_esc he (by omega) (h.at (k := 0) rfl _ (by omega)) (esc_letter (n := 10) (by omega) (by rw [h.at (k := 1) (x := 110) rfl (e + 1) (by omega)]; rfl) (by decide)), if_pos rfl, text_quote (by omega) (by omega) (h.at (k := 2) rfl _ (by omega))]
    rw [show e + 2 + 1 = (u.size : Int) from by omega]; rfl
  · have hf : four u (e + 2) = (65, e + 6) := by
      have := four_at (s := u) (i := e + 2) (n := 65) (g := false) (by decide) (by decide) (by omega) (h.at (k := 2) (x := 48) rfl _ (by omega)) (h.at (k := 3) (x := 48) rfl _ (by omega)) (h.at (k := 4) (x := 52) rfl _ (by omega)) (h.at (k := 5) (x := 49) rfl _ (by omega))
      rw [this, show e + 2 + 4 = e + 6 from by omega]
    have hesc := esc_u (s := u) (i := e) (n := 65) (by omega) (h.at (k := 1) rfl _ (by omega)) hf (by decide)
    rw [if_pos (by decide)] at hesc
    rw [text_esc he (by omega) (h.at (k := 0) rfl _ (by omega)) hesc, if_pos rfl, text_quote (by omega) (by omega) (h.at (k := 6) rfl _ (by omega))]
    rw [show e + 6 + 1 = (u.size : Int) from by omega]; rfl
theorem tail_bad {u : ByteArray} {e : Int} {acc : List Int} (he : 0 ≤ e) (h : From u e (moreL 4 ++ [34])) : textAt u e acc = ([], (u.size : Int), 1) := by
  have hz := h.1
  simp only [moreL, List.length_append, List.length_cons, List.length_nil] at hz
  rw [text_esc he (by omega) (h.at (k := 0) rfl _ (by omega)) (esc_letter (n := 34) (by omega) (by rw [h.at (k := 1) (x := 34) rfl (e + 1) (by omega)]; rfl) (by decide)), if_pos rfl, textAt_step (by omega), if_pos (by omega)]
  rw [show e + 2 = (u.size : Int) from by omega]
theorem head_says {u : ByteArray} {l : List Int} (h : From u 0 (34 :: 120 :: l)) : textOf u 0 = textAt u 2 [120] ∧ nextF u 0 = strF u 0 := by
  have hz := h.1
  simp only [List.length_cons] at hz
  have b0 : bt u 0 = 34 := h.at (k := 0) rfl 0 (by omega)
  have b1 : bt u 1 = 120 := h.at (k := 1) rfl 1 (by omega)
  constructor
  · unfold textOf
    rw [show (0 : Int) + 1 = 1 from rfl, text_ascii (by decide) (by omega) b1 (by decide) (by decide) (by decide) (by decide)]; rfl
  · have hb : blanks u 0 = 0 := blanks_at (by simp [isBlank, isAt, b0])
    unfold nextF
    rw [hb, if_pos (by omega)]
    unfold tokF
    rw [b0, if_neg (by decide), if_pos rfl]
theorem all_str {u : ByteArray} {l : List Int} (hs : 0 < u.size) (hn : nextF u 0 = strF u 0) (ht : textOf u 0 = (l, (u.size : Int), 0)) : ∃ tk, allOf u = ([⟨2, textS l, 0, 0, u.size⟩, tk], 0, 0) := by
  have h1 : nextF u 0 = (⟨2, textS l, 0, 0, u.size⟩, 0, 0) := by rw [hn]; unfold strF; rw [ht, if_pos rfl]
  refine ⟨⟨0, ByteArray.empty, 0, u.size, u.size⟩, ?_⟩
  unfold allOf
  rw [allAt_step (by omega) (by omega), h1, if_neg (by simp), if_neg (by simp)]
  simp only
  rw [allAt_step (by omega) (by omega), next_end, if_neg (by simp), if_pos rfl]; rfl
theorem all_err {u : ByteArray} {l : List Int} {p c : Int} (hn : nextF u 0 = strF u 0) (ht : textOf u 0 = (l, p, c)) (hc : c ≠ 0) : allOf u = ([], p, c) := by
  have h1 : nextF u 0 = (Tk.zero, p, c) := by rw [hn]; unfold strF; rw [ht, if_neg hc]
  unfold allOf
  rw [allAt_step (by omega) (by omega), h1, if_pos hc]
/-- One escape. -/
theorem one_esc {u : ByteArray} {n : Int} {g : Bool} {m : Nat} (h0 : 0 ≤ n) (h1 : n < 65536) (hm : m ≤ 4) (h : From u 0 ([34, 120, 92, 117] ++ hexL g n ++ (moreL m ++ [34]))) :
    (pointB n = false → allOf u = ([], 2, 3)) ∧ (pointB n = true → m = 4 → allOf u = ([], (u.size : Int), 1)) ∧ (pointB n = true → m ≤ 3 → ∃ tk, allOf u = ([⟨2, textS ([120, n] ++ addL m), 0, 0, u.size⟩, tk], 0, 0)) := by
  have hz := h.1
  simp only [List.length_append, hexL, List.length_cons, List.length_nil] at hz
  have h2 : From u 0 (34 :: 120 :: (92 :: 117 :: (hexL g n ++ (moreL m ++ [34])))) := by simpa using h
  obtain ⟨ht, hn⟩ := head_says h2
  have hq : From u 4 (hexL g n ++ (moreL m ++ [34])) := by rw [List.append_assoc] at h; exact h.app 4 (by simp)
  have hf : four u (2 + 2) = (n, 2 + 6) := four_from hq h0 h1
  have b2 : bt u 2 = 92 := h2.at (k := 2) rfl 2 (by omega)
  have b3 : bt u (2 + 1) = 117 := h2.at (k := 3) rfl _ (by omega)
  have hM : From u 8 (moreL m ++ [34]) := hq.app 8 (by simp [hexL])
  have hesc := esc_u (s := u) (i := 2) (n := n) (by omega) b3 hf h0
  refine ⟨fun hp => ?_, fun hp hm4 => ?_, fun hp hm3 => ?_⟩
  · rw [hp, if_neg (by simp)] at hesc
    rw [if_neg ?_] at hesc
    · refine all_err hn (l := []) (p := 2) (c := 3) ?_ (by decide)
      rw [ht, text_esc (by decide) (by omega) b2 hesc, if_neg (by decide)]
    · rintro ⟨_, k1, k2, k3, k4⟩
      have hmz := hM.1
      have h5 : m = 0 ∨ m = 1 ∨ m = 2 ∨ m = 3 ∨ m = 4 := by omega
      have k1b : bt u 8 = 92 := by simp only [isAt, Bool.and_eq_true, beq_iff_eq] at k1; exact k1.2
      have k2b : bt u 9 = 117 := by simp only [isAt, Bool.and_eq_true, beq_iff_eq] at k2; exact k2.2
      rcases h5 with rfl | rfl | rfl | rfl | rfl
      · have := hM.at (k := 0) (x := 34) rfl 8 (by omega); omega
      · have := hM.at (k := 0) (x := 97) rfl 8 (by omega); omega
      · have := hM.at (k := 1) (x := 110) rfl 9 (by omega); omega
      · simp only [moreL, List.length_append, List.length_cons, List.length_nil] at hmz
        have := four_at (s := u) (i := 10) (n := 65) (g := false) (by decide) (by decide) (by omega) (hM.at (k := 2) (x := 48) rfl _ (by omega)) (hM.at (k := 3) (x := 48) rfl _ (by omega)) (hM.at (k := 4) (x := 52) rfl _ (by omega)) (hM.at (k := 5) (x := 49) rfl _ (by omega))
        rw [show (2 : Int) + 6 + 2 = 10 from by decide, this] at k3
        simp only at k3; omega
      · have := hM.at (k := 1) (x := 34) rfl 9 (by omega); omega
  · subst hm4
    rw [if_pos hp] at hesc
    refine all_err hn (l := []) (c := 1) ?_ (by decide)
    rw [ht, text_esc (by decide) (by omega) b2 hesc, if_pos rfl]
    exact tail_bad (by decide) hM
  · rw [if_pos hp] at hesc
    refine all_str (by omega) hn ?_
    rw [ht, text_esc (by decide) (by omega) b2 hesc, if_pos rfl]
    exact tail_ok (by decide) hm3 hM
/-- Two halves. -/
theorem two_esc {u : ByteArray} {p : Int} {g : Bool} {m : Nat} (h0 : 65536 ≤ p) (h1 : p < 1114112) (hm : m ≤ 4) (h : From u 0 ([34, 120, 92, 117] ++ hexL g (55296 + (p - 65536) / 1024) ++ [92, 117] ++ hexL g (56320 + (p - 65536) % 1024) ++ (moreL m ++ [34]))) :
    (m = 4 → allOf u = ([], (u.size : Int), 1)) ∧ (m ≤ 3 → ∃ tk, allOf u = ([⟨2, textS ([120, p] ++ addL m), 0, 0, u.size⟩, tk], 0, 0)) := by
  have hz := h.1
  simp only [List.length_append, hexL, List.length_cons, List.length_nil] at hz
  have hA := h
  simp only [List.append_assoc] at hA
  have h2 : From u 0 (34 :: 120 :: (92 :: 117 :: (hexL g (55296 + (p - 65536) / 1024) ++ ([92, 117] ++ (hexL g (56320 + (p - 65536) % 1024) ++ (moreL m ++ [34])))))) := by simpa using hA
  obtain ⟨ht, hn⟩ := head_says h2
  have hq : From u 4 (hexL g (55296 + (p - 65536) / 1024) ++ ([92, 117] ++ (hexL g (56320 + (p - 65536) % 1024) ++ (moreL m ++ [34])))) := hA.app 4 (by simp)
  have hf : four u (2 + 2) = (55296 + (p - 65536) / 1024, 2 + 6) := four_from hq (by omega) (by omega)
  have hq2 : From u 8 ([92, 117] ++ (hexL g (56320 + (p - 65536) % 1024) ++ (moreL m ++ [34]))) := hq.app 8 (by simp [hexL])
  have hq3 : From u 10 (hexL g (56320 + (p - 65536) % 1024) ++ (moreL m ++ [34])) := hq2.app 10 (by simp)
  have hf2 : four u (2 + 6 + 2) = (56320 + (p - 65536) % 1024, 14) := four_from hq3 (by omega) (by omega)
  have hM : From u 14 (moreL m ++ [34]) := hq3.app 14 (by simp [hexL])
  have b2 : bt u 2 = 92 := h2.at (k := 2) rfl 2 (by omega)
  have b3 : bt u (2 + 1) = 117 := h2.at (k := 3) rfl _ (by omega)
  have b8 : bt u (2 + 6) = 92 := hq2.at (k := 0) rfl _ (by omega)
  have b9 : bt u (2 + 6 + 1) = 117 := hq2.at (k := 1) rfl _ (by omega)
  have i8 : isAt u (2 + 6) 92 = true := by unfold isAt; rw [b8]; simp; omega
  have i9 : isAt u (2 + 6 + 1) 117 = true := by unfold isAt; rw [b9]; simp; omega
  have hesc := esc_u (s := u) (i := 2) (n := 55296 + (p - 65536) / 1024) (by omega) b3 hf (by omega)
  rw [if_neg (by simp [pointB]; omega), hf2, if_pos ⟨by omega, i8, i9, by simp only; omega, by simp only; omega⟩] at hesc
  simp only at hesc
  rw [show 65536 + (55296 + (p - 65536) / 1024 - 55296) * 1024 + (56320 + (p - 65536) % 1024) - 56320 = p from by omega] at hesc
  refine ⟨fun hm4 => ?_, fun hm3 => ?_⟩
  · subst hm4
    refine all_err hn (l := []) (c := 1) ?_ (by decide)
    rw [ht, text_esc (by decide) (by omega) b2 hesc, if_pos rfl]
    exact tail_bad (by decide) hM
  · refine all_str (by omega) hn ?_
    rw [ht, text_esc (by decide) (by omega) b2 hesc, if_pos rfl]
    exact tail_ok (by decide) hm3 hM
theorem from_nums {l : List Int} (h : ByteL l) : From (strOfNums l) 0 l := ⟨by rw [strOfNums_size]; omega, fun k x hk => by rw [Int.zero_add]; exact bt_nums h hk⟩
theorem more_bytes (m : Nat) (hm : m ≤ 4) : ByteL (moreL m ++ [34]) := by
  have h5 : m = 0 ∨ m = 1 ∨ m = 2 ∨ m = 3 ∨ m = 4 := by omega
  intro x hx
  rcases h5 with rfl | rfl | rfl | rfl | rfl <;> simp [moreL] at hx <;> omega
theorem ByteL.app {a b : List Int} (ha : ByteL a) (hb : ByteL b) : ByteL (a ++ b) := fun x hx => (List.mem_append.1 hx).elim (ha x) (hb x)

def smlS : ByteArray := ⟨#[48, 49, 50, 51, 52, 53, 54, 55, 56, 57, 97, 98, 99, 100, 101, 102]⟩
def grtS : ByteArray := ⟨#[48, 49, 50, 51, 52, 53, 54, 55, 56, 57, 65, 66, 67, 68, 69, 70]⟩
theorem sml_one : ∀ d : Nat, d < 16 → smlS.extract d (d + 1) = strOfNums [hxC false d] := by decide +kernel
theorem grt_one : ∀ d : Nat, d < 16 → grtS.extract d (d + 1) = strOfNums [hxC true d] := by decide +kernel
theorem pow_step {m n : Int} {k : Nat} (hk : k < 4) (hm : m = n / 16 ^ k) : m / 16 = n / 16 ^ (k + 1) := by
  have h4 : k = 0 ∨ k = 1 ∨ k = 2 ∨ k = 3 := by omega
  subst hm
  rcases h4 with rfl | rfl | rfl | rfl
  · show n / 1 / 16 = n / 16; omega
  · show n / 16 / 16 = n / 256; omega
  · show n / 256 / 16 = n / 4096; omega
  · show n / 4096 / 16 = n / 65536; omega
theorem hex_part {g : Bool} {t : ByteArray} (ht : ∀ d : Nat, d < 16 → t.extract d (d + 1) = strOfNums [hxC g d]) {n m : Int} {k : Nat} (hk : k < 4) (hm0 : 0 ≤ m) (hm : m = n / 16 ^ k) : t.extract (m % 16).toNat (m % 16 + 1).toNat ++ strOfNums ((hexL g n).drop (4 - k)) = strOfNums ((hexL g n).drop (4 - (k + 1))) := by
  have h1 := ht (m % 16).toNat (by omega)
  rw [Int.toNat_of_nonneg (by omega)] at h1
  rw [show (m % 16 + 1).toNat = (m % 16).toNat + 1 from by omega, h1, nums_app]
  congr 1
  have h4 : k = 0 ∨ k = 1 ∨ k = 2 ∨ k = 3 := by omega
  rcases h4 with rfl | rfl | rfl | rfl
  · subst hm; simp [hexL]
  · subst hm; simp [hexL]
  · have : m % 16 = n / 256 % 16 := by rw [hm]; rfl
    rw [this]; simp [hexL]
  · have : m % 16 = n / 4096 % 16 := by rw [hm]; rfl
    rw [this]; simp [hexL]
set_option maxRecDepth 20000 in
set_option maxHeartbeats 2000000 in
theorem hexq_any (n : Int) (g : Bool) (w : World) (h0 : 0 ≤ n) (h1 : n < 65536) :
    Calls Tryd.prog 16 #[.int .i64 n, .bool g] w fun e w' => e = .returned (.string (strOfNums (hexL g n))) ∧ w = w' := by
  have HP := Lib.hid (fun (k : Nat) (hk : k < 4) (m : Int) (hm0 : 0 ≤ m) (hm : m = n / 16 ^ k) => And.intro (hex_part (g := false) sml_one hk hm0 hm) (hex_part (g := true) grt_one hk hm0 hm))
  have HF : Hid (∀ m k : Nat, True) := Lib.hid (fun _ _ => trivial)
  cases g
  all_goals
    go_enter Tryd.func16, Tryd.ntmps16
    go_wp2
    go_loop [0, 6, 7] (fun nv sv kv => ∃ (k : Nat) (m : Int) (s : ByteArray), k ≤ 4 ∧ kv = .int .i64 k ∧ nv = .int .i64 m ∧ sv = .string s ∧ 0 ≤ m ∧ m ≤ 65535 ∧ s.size ≤ 4 ∧ Hid (m = n / 16 ^ k ∧ s = strOfNums ((hexL _ n).drop (4 - k)))) (fun _ _ kv => 4 - (intOf kv).toNat)
    case atStart => exact ⟨0, n, ⟨#[]⟩, by omega, rfl, rfl, rfl, h0, by omega, by decide, Lib.hid ⟨by simp, rfl⟩⟩
    case round =>
      obtain ⟨k, m, s, hk, rfl, rfl, rfl, hm0, hm1, hs4, H⟩ := hrel
      by_cases hlt : k < 4
      · have hr : 0 ≤ m % 16 ∧ m % 16 ≤ 15 := by omega
        have hq : 0 ≤ m / 16 ∧ m / 16 ≤ 65535 := by omega
        obtain ⟨hr0, hr1⟩ := hr
        obtain ⟨hq0, hq1⟩ := hq
        have HS := Lib.hid (HP.out k hlt m hm0 H.out.1)
        have HM : Hid (m / 16 = n / 16 ^ (k + 1)) := Lib.hid (pow_step hlt H.out.1)
        go_wp2
        go_round
        case rel => exact ⟨k + 1, m / 16, _, by omega, by go_num, rfl, rfl, hq0, hq1, by
          have h2 := HS.out
          unfold smlS grtS at h2
          rw [H.out.2]
          first
          | rw [h2.1]
          | rw [h2.2]
          rw [strOfNums_size]; simp [hexL], Lib.hid ⟨HM.out, by
          have h2 := HS.out
          unfold smlS grtS at h2
          rw [H.out.2]
          first
          | exact h2.1
          | exact h2.2⟩⟩
        case measure => simp [intOf]; omega
      · obtain rfl : k = 4 := by omega
        have HZ := Lib.hid H.out.2
        go_wp2
        go_ret
        exact ⟨ret_str HZ.out, rfl⟩

def moreB : Nat → ByteArray
  | 0 => ⟨#[]⟩
  | 1 => ⟨#[97]⟩
  | 2 => ⟨#[92, 110]⟩
  | 3 => ⟨#[92, 117, 48, 48, 52, 49]⟩
  | _ => ⟨#[92]⟩
def addB : Nat → ByteArray
  | 0 => ⟨#[]⟩
  | 1 => ⟨#[97]⟩
  | 2 => ⟨#[10]⟩
  | _ => ⟨#[65]⟩
theorem more_nums : ∀ k : Nat, k < 5 → moreB k = strOfNums (moreL k) := by decide +kernel
theorem add_nums : ∀ k : Nat, k < 4 → addB k = strOfNums (bytesOfL (addL k)) := by decide +kernel
theorem lit_q : (⟨#[34, 120]⟩ : ByteArray) = strOfNums [34, 120] := by decide +kernel
theorem lit_u : (⟨#[92, 117]⟩ : ByteArray) = strOfNums [92, 117] := by decide +kernel
theorem lit_e : (⟨#[34]⟩ : ByteArray) = strOfNums [34] := by decide +kernel
theorem lit_x : (⟨#[120]⟩ : ByteArray) = strOfNums [120] := by decide +kernel
def s1 (n : Int) (g : Bool) : ByteArray := ⟨#[92, 117]⟩ ++ strOfNums (hexL g n)
def s2 (p : Int) (g : Bool) : ByteArray := ⟨#[92, 117]⟩ ++ strOfNums (hexL g (55296 + (p - 65536) / 1024)) ++ ⟨#[92, 117]⟩ ++ strOfNums (hexL g (56320 + (p - 65536) % 1024))
def uOf (s : ByteArray) (k : Nat) : ByteArray := ⟨#[34, 120]⟩ ++ s ++ moreB k ++ ⟨#[34]⟩
theorem u1_nums (n : Int) (g : Bool) {k : Nat} (hk : k < 5) : uOf (s1 n g) k = strOfNums ([34, 120, 92, 117] ++ hexL g n ++ (moreL k ++ [34])) := by
  unfold uOf s1
  rw [more_nums k hk, lit_q, lit_u, lit_e, nums_app, nums_app, nums_app, nums_app]
  simp
theorem u2_nums (p : Int) (g : Bool) {k : Nat} (hk : k < 5) : uOf (s2 p g) k = strOfNums ([34, 120, 92, 117] ++ hexL g (55296 + (p - 65536) / 1024) ++ [92, 117] ++ hexL g (56320 + (p - 65536) % 1024) ++ (moreL k ++ [34])) := by
  unfold uOf s2
  rw [more_nums k hk, lit_q, lit_u, lit_e]
  simp only [nums_app]
  simp
theorem lits_bytes : ByteL [34, 120, 92, 117] ∧ ByteL [92, 117] := ⟨by intro x hx; simp at hx; omega, by intro x hx; simp at hx; omega⟩
theorem s1_size (n : Int) (g : Bool) : (s1 n g).size = 6 := by unfold s1; rw [ByteArray.size_append, strOfNums_size]; rfl
theorem s2_size (n : Int) (g : Bool) : (s2 n g).size = 12 := by unfold s2; rw [ByteArray.size_append, ByteArray.size_append, ByteArray.size_append, strOfNums_size, strOfNums_size]; rfl
theorem more_size (k : Nat) : (moreB k).size ≤ 6 ∧ (k = 4 → (moreB k).size = 1) := by
  unfold moreB
  split <;> exact ⟨by decide, by intro h; first | omega | rfl⟩
theorem uOf_size (s : ByteArray) (k : Nat) : (uOf s k).size = s.size + (moreB k).size + 3 := by
  unfold uOf
  rw [ByteArray.size_append, ByteArray.size_append, ByteArray.size_append, show (⟨#[34, 120]⟩ : ByteArray).size = 2 from rfl, show (⟨#[34]⟩ : ByteArray).size = 1 from rfl]
  omega
/-- What the document's list of one Str says. -/
def OneStr (p : Int) (k : Nat) (r : List Tk × Int × Int) : Prop := ∃ st tk, r = ([⟨2, textS ([120, p] ++ addL k), 0, 0, st⟩, tk], 0, 0)
theorem esc1_all {n : Int} {g : Bool} {k : Nat} (h0 : 0 ≤ n) (h1 : n < 65536) (hk : k < 5) :
    (pointB n = false → allOf (uOf (s1 n g) k) = ([], 2, 3)) ∧ (pointB n = true → k = 4 → allOf (uOf (s1 n g) k) = ([], 10, 1)) ∧ (pointB n = true → k < 4 → OneStr n k (allOf (uOf (s1 n g) k))) := by
  have hz := uOf_size (s1 n g) k
  have hm := (more_size k).2
  rw [s1_size] at hz
  have hF : From (uOf (s1 n g) k) 0 ([34, 120, 92, 117] ++ hexL g n ++ (moreL k ++ [34])) := by
    rw [u1_nums n g hk]
    exact from_nums ((lits_bytes.1.app (hexL_bytes g n)).app (more_bytes k (by omega)))
  obtain ⟨a, b, c⟩ := one_esc h0 h1 (by omega) hF
  refine ⟨a, fun hp h4 => ?_, fun hp h4 => ?_⟩
  · rw [b hp h4, hz, hm h4]; rfl
  · obtain ⟨tk, h⟩ := c hp (by omega)
    exact ⟨_, tk, h⟩
theorem esc2_all {p : Int} {g : Bool} {k : Nat} (h0 : 65536 ≤ p) (h1 : p < 1114112) (hk : k < 5) :
    (k = 4 → allOf (uOf (s2 p g) k) = ([], 16, 1)) ∧ (k < 4 → OneStr p k (allOf (uOf (s2 p g) k))) := by
  have hz := uOf_size (s2 p g) k
  have hm := (more_size k).2
  rw [s2_size] at hz
  have hF : From (uOf (s2 p g) k) 0 ([34, 120, 92, 117] ++ hexL g (55296 + (p - 65536) / 1024) ++ [92, 117] ++ hexL g (56320 + (p - 65536) % 1024) ++ (moreL k ++ [34])) := by
    rw [u2_nums p g hk]
    exact from_nums ((((lits_bytes.1.app (hexL_bytes g _)).app lits_bytes.2).app (hexL_bytes g _)).app (more_bytes k (by omega)))
  obtain ⟨b, c⟩ := two_esc h0 h1 (by omega) hF
  refine ⟨fun h4 => ?_, fun h4 => ?_⟩
  · rw [b h4, hz, hm h4]; rfl
  · obtain ⟨tk, h⟩ := c (by omega)
    exact ⟨_, tk, h⟩
theorem text_joined (p : Int) {k : Nat} (hk : k < 4) : textS ([120, p] ++ addL k) = ⟨#[120]⟩ ++ textS [p] ++ addB k := by
  unfold textS
  rw [add_nums k hk, lit_x, nums_app, nums_app]
  congr 1
  simp [bytesOfL, show bytesL 120 = [120] from rfl]

theorem hexv_any (n : Int) (g : Bool) (w : World) (h0 : 0 ≤ n) (h1 : n < 65536) :
    Calls Tryd.prog 16 #[.int .i64 n, .bool g] w fun e w' => ∃ s, e = .returned (.string s) ∧ s.size = 4 ∧ Hid (s = strOfNums (hexL g n)) ∧ w = w' :=
  (hexq_any n g w h0 h1).mono fun e w' ⟨he, hw⟩ => ⟨_, he, strOfNums_size _, Lib.hid rfl, hw⟩
theorem take_n {P : Program} {md : Region.Mode} {ops : Array Oper} {Q : Exit → Act → World → Prop} {i : Nat} {oi : Oper} {v : Value} {fuel : Nat} {listed : Array Bool} {a a2 : Act} {w : World} (hi : ops[i]? = some oi)
    (hs : Region.noSelect ops = true) (hf : Region.free md ops listed i = true) (hr : (Region.ready md ops listed).contains i = true)
    (hQ : ∀ c a w, Q (.panic c) (a.put oi.dst v) w → Q (.panic c) a w) (hy : Yields P ops oi v a) (ha : a.put oi.dst v = a2)
    (h : wpAny P md ops Q fuel (listed.setIfInBounds i true) a2 w) : wpAny P md ops Q (fuel + 1) listed a w :=
  wpAny_take hi hs hf hr hQ hy (ha ▸ h)
theorem one_row (w : World) (p : Int) : (w.alloc (.cells #[.int .i64 p] 3)).ownsRow w.heap.size 3 1 (.slice (some ⟨w.heap.size, 0, none⟩) 1 1) [p].length (intV [p]) :=
  World.ownsRow_lit (base := w.heap.size) (e := 3) (size := 1) w #[.int .i64 p] 1 (Nat.le_refl _) (by decide) rfl
theorem text_one (p : Int) (hp : pointB p = true) (base : Nat) (v : Value) (w : World) (ho : w.ownsRow base 3 1 v [p].length (intV [p])) :
    Calls Tryd.prog 18 #[v] w fun e w' => ∃ s, e = .returned (.string s) ∧ s.size ≤ 4 ∧ Hid (s = textS [p]) ∧ Below w.heap.size w w' :=
  (text1_any [p] base v w (by simpa using hp) ho (by simp)).mono fun e w' ⟨he, hb⟩ => ⟨_, he, by unfold textS; rw [strOfNums_size]; simpa [bytesOfL] using bytesL_len4 p, Lib.hid rfl, hb⟩
theorem str_known {t s : ByteArray} {p : Int} {k : Nat} (hk : k < 4) (ht : t = textS ([120, p] ++ addL k)) (hs : s = textS [p]) : (t.toList == (⟨#[120]⟩ ++ s ++ addB k).toList) = true := str_beq (by rw [ht, hs]; exact text_joined p hk)
theorem point_big {p : Int} (h0 : 65536 ≤ p) (h1 : p < 1114112) : pointB p = true := by simp [pointB]; omega
set_option maxRecDepth 20000 in
set_option maxHeartbeats 4000000 in
theorem esc_4 (n m : Int) (g : Bool) (w : World) (hv : VarOk w) (hn0 : 0 ≤ n) (hn1 : n ≤ 4294967295) (hm0 : 0 ≤ m) (hm1 : m ≤ 255) (hk : m % 5 = 4) :
    Calls Tryd.prog 6 #[.int .u32 n, .bool g, .int .u8 m] w fun e w' => e = .returned (.bool true) ∧ Below w.heap.size w w' := by
  have HV := Lib.hid hv
  have HK := Lib.hid (fun W (hb : Below w.heap.size w W) => HV.out.keeps (Keeps.below (S := []) hb) (by simp))
  have HW0 := Lib.hid (awake_any w hv)
  have hp : 0 ≤ n % 1114112 ∧ n % 1114112 < 1114112 := by omega
  obtain ⟨hp0, hp1⟩ := hp
  clear hv
  go_enter Tryd.func6, Tryd.ntmps6
  go_wp2_with fail
  refine HW0.out.mono ?_
  rintro e' w1 ⟨rfl, hb1⟩
  have HB1 := Lib.hid hb1
  clear hb1
  go_wp2_with fail
  have IX : ∀ w : World, (Instr.index 43 (.agg #[.string ⟨#[]⟩, .string ⟨#[97]⟩, .string ⟨#[92, 110]⟩, .string ⟨#[92, 117, 48, 48, 52, 49]⟩, .string ⟨#[92]⟩]) (.int .u8 4)).run Tryd.prog w = .ok (.string ⟨#[92]⟩) w := fun _ => by kernel_rfl
  have hk2 : m.tmod 5 = 4 := by rw [Int.tmod_eq_emod_of_nonneg hm0]; exact hk
  go_quiet (fail)
  have HB2 : Hid (Below w.heap.size w (w1.drewN nq)) := Lib.hid (bl_drewN HB1.out nq)
  generalize w1.drewN nq = w2 at HB2 ⊢
  clear HB1 IX hk2 HW0 HV
  generalize n % 1114112 = p at *
  by_cases hb : 65536 ≤ p
  · have HE := Lib.hid (esc2_all (g := g) (k := 4) hb hp1 (by decide))
    have HA : Hid (∀ W, Below w.heap.size w W → Calls Tryd.prog 10 #[.string (uOf (s2 p g) 4)] W (AllSays 32 (allOf (uOf (s2 p g) 4)) W)) := Lib.hid (fun W hb => all_any _ W (by rw [uOf_size, s2_size]; have := (more_size 4).1; omega) (HK.out W hb))
    have hpt := point_big hb hp1
    have HIS := Lib.hid (fun W => (hpt ▸ ris_any p W : Calls Tryd.prog 17 #[.int .i64 p] W fun e w' => e = .returned (.bool true) ∧ W = w'))
    have HTX := Lib.hid (text_one p hpt)
    clear hpt
    have hq : 0 ≤ (p - 65536) / 1024 ∧ (p - 65536) / 1024 ≤ 1023 := by omega
    have hr : 0 ≤ (p - 65536) % 1024 ∧ (p - 65536) % 1024 ≤ 1023 := by omega
    obtain ⟨hq0, hq1⟩ := hq
    obtain ⟨hr0, hr1⟩ := hr
    have HX1 := Lib.hid (fun W => hexv_any (55296 + (p - 65536) / 1024) g W (by omega) (by omega))
    have HX2 := Lib.hid (fun W => hexv_any (56320 + (p - 65536) % 1024) g W (by omega) (by omega))
    go_wp2_with (go_at_call 16; with_reducible refine (HX1.out _).mono ?_; rintro e w' ⟨sa, rfl, hsa, HSA, rfl⟩)
    refine (HX2.out _).mono ?_
    rintro e w' ⟨sb, rfl, hsb, HSB, rfl⟩
    clear HX1 HX2 hq0 hq1 hr0 hr1
    rw [HE.out.1 (by first | trivial | rfl)] at HA
    · unfold uOf s2 moreB at HA
      rw [← HSA.out, ← HSB.out] at HA
      clear HSA HSB
      go_wp2_with fail
      refine (HA.out _ HB2.out).mono ?_
      rintro e' w3 ⟨v, rfl, _, hb3⟩
      have HB3 := Lib.hid (bl_step HB2.out hb3)
      clear hb3 HA
      go_wp2_with (go_at_call 17; with_reducible refine (HIS.out _).mono ?_; rintro e w' ⟨rfl, rfl⟩)
      go_ret
      exact ⟨rfl, HB3.out⟩
  · have hb' : p < 65536 := by omega
    have HE := Lib.hid (esc1_all (g := g) (k := 4) hp0 hb' (by decide))
    have HA : Hid (∀ W, Below w.heap.size w W → Calls Tryd.prog 10 #[.string (uOf (s1 p g) 4)] W (AllSays 32 (allOf (uOf (s1 p g) 4)) W)) := Lib.hid (fun W hb => all_any _ W (by rw [uOf_size, s1_size]; have := (more_size 4).1; omega) (HK.out W hb))
    have HX1 := Lib.hid (fun W => hexv_any p g W hp0 hb')
    cases hpt : pointB p with
    | false =>
      have HIS := Lib.hid (fun W => (hpt ▸ ris_any p W : Calls Tryd.prog 17 #[.int .i64 p] W fun e w' => e = .returned (.bool false) ∧ W = w'))
      rw [HE.out.1 hpt] at HA
      go_wp2_with (go_at_call 16; with_reducible refine (HX1.out _).mono ?_; rintro e w' ⟨sa, rfl, hsa, HSA, rfl⟩)
      unfold uOf s1 moreB at HA
      rw [← HSA.out] at HA
      clear HSA HX1 HE hpt
      refine (HA.out _ HB2.out).mono ?_
      rintro e' w3 ⟨v, rfl, _, hb3⟩
      have HB3 := Lib.hid (bl_step HB2.out hb3)
      clear hb3 HA
      go_wp2_with (go_at_call 17; with_reducible refine (HIS.out _).mono ?_; rintro e w' ⟨rfl, rfl⟩)
      go_ret
      exact ⟨rfl, HB3.out⟩
    | true =>
      have HIS := Lib.hid (fun W => (hpt ▸ ris_any p W : Calls Tryd.prog 17 #[.int .i64 p] W fun e w' => e = .returned (.bool true) ∧ W = w'))
      have HTX := Lib.hid (text_one p hpt)
      rw [HE.out.2.1 hpt (by first | trivial | rfl)] at HA
      clear hpt
      go_wp2_with (go_at_call 16; with_reducible refine (HX1.out _).mono ?_; rintro e w' ⟨sa, rfl, hsa, HSA, rfl⟩)
      unfold uOf s1 moreB at HA
      rw [← HSA.out] at HA
      clear HSA HX1
      refine (HA.out _ HB2.out).mono ?_
      rintro e' w3 ⟨v, rfl, _, hb3⟩
      have HB3 := Lib.hid (bl_step HB2.out hb3)
      clear hb3 HA
      go_wp2_with (go_at_call 17; with_reducible refine (HIS.out _).mono ?_; rintro e w' ⟨rfl, rfl⟩)
      go_ret
      exact ⟨rfl, HB3.out⟩
end Go.Proofs.YtlnmjpacagimnaaDoor
