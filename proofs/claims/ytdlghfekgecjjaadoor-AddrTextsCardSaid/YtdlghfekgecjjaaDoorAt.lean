/-
  An address's text is parsed as it was.
-/
import Derived.Test.YtdlghfekgecjjaaDoorAs
namespace Go.Proofs.YtdlghfekgecjjaaDoor
open Go E
set_option linter.unusedVariables false
set_option linter.unusedSimpArgs false
set_option maxRecDepth 100000

/-! ### Digits, read again -/

theorem hv_hexd {d : Int} (h0 : 0 ≤ d) (h1 : d < 16) : hv (hexd d) = d := by
  unfold hv hexd
  by_cases h : d < 10
  · rw [if_pos h, if_pos (by omega)]; omega
  · rw [if_neg h, if_neg (by omega), if_pos (by omega)]; omega
theorem isHex_hexd {d : Int} (h0 : 0 ≤ d) (h1 : d < 16) : isHex (hexd d) = true := by
  refine decide_eq_true ?_
  unfold hexd
  split <;> omega
theorem valL_hexL {n : Int} (h0 : 0 ≤ n) (h1 : n ≤ 65535) : valL (hexL n) = n := by
  have a1 := fun d => @hv_hexd d
  unfold hexL
  split
  · simp only [valL, List.foldl_cons, List.foldl_nil]
    rw [a1 n h0 (by omega)]; omega
  · split
    · simp only [valL, List.foldl_cons, List.foldl_nil]
      rw [a1 (n / 16) (by omega) (by omega), a1 (n % 16) (by omega) (by omega)]; omega
    · split
      · simp only [valL, List.foldl_cons, List.foldl_nil]
        rw [a1 (n / 256) (by omega) (by omega), a1 (n / 16 % 16) (by omega) (by omega), a1 (n % 16) (by omega) (by omega)]; omega
      · simp only [valL, List.foldl_cons, List.foldl_nil]
        rw [a1 (n / 4096) (by omega) (by omega), a1 (n / 256 % 16) (by omega) (by omega), a1 (n / 16 % 16) (by omega) (by omega), a1 (n % 16) (by omega) (by omega)]; omega
theorem hexL_hex {n : Int} (h0 : 0 ≤ n) (h1 : n ≤ 65535) : (hexL n).all isHex = true := by
  unfold hexL
  split
  · simp only [List.all_cons, List.all_nil, isHex_hexd h0 (show n < 16 by omega), Bool.and_true]
  · split
    · simp only [List.all_cons, List.all_nil, isHex_hexd (show 0 ≤ n / 16 by omega) (by omega), isHex_hexd (show 0 ≤ n % 16 by omega) (by omega), Bool.and_true]
    · split
      · simp only [List.all_cons, List.all_nil, isHex_hexd (show 0 ≤ n / 256 by omega) (by omega), isHex_hexd (show 0 ≤ n / 16 % 16 by omega) (by omega), isHex_hexd (show 0 ≤ n % 16 by omega) (by omega), Bool.and_true]
      · simp only [List.all_cons, List.all_nil, isHex_hexd (show 0 ≤ n / 4096 by omega) (by omega), isHex_hexd (show 0 ≤ n / 256 % 16 by omega) (by omega), isHex_hexd (show 0 ≤ n / 16 % 16 by omega) (by omega), isHex_hexd (show 0 ≤ n % 16 by omega) (by omega), Bool.and_true]
theorem hexL_part {n : Int} (h0 : 0 ≤ n) (h1 : n ≤ 65535) : isPart (hexL n) := ⟨(hexL_len n).1, (hexL_len n).2, hexL_hex h0 h1⟩
theorem val_map {g : List Int} (hg : gOk g) : (g.map hexL).map valL = g := by
  rw [List.map_map]
  conv => rhs; rw [← List.map_id g]
  exact List.map_congr_left fun n hn => valL_hexL (hg n hn).1 (hg n hn).2

/-! ### Where colons stand -/

def u8s (l : List Int) : List UInt8 := l.map fun n => UInt8.ofNat n.toNat
theorem nums_data (l : List Int) : (strOfNums l).data.toList = u8s l := rfl
/-- No colon. -/
def nc (l : List UInt8) : Prop := ∀ c ∈ l, c ≠ 58
theorem ix1_none : ∀ {l : List UInt8}, nc l → Lib.index l [58] = -1
  | [], _ => rfl
  | b :: l, h => by
    have hb : b ≠ 58 := h b (by simp)
    have hp : ([58] : List UInt8).isPrefixOf (b :: l) = false := by simp [List.isPrefixOf, Ne.symm hb]
    rw [Lib.index, hp, ix1_none fun c hc => h c (by simp [hc])]; rfl
theorem ix1_hit {r : List UInt8} : ∀ {l : List UInt8}, nc l → Lib.index (l ++ 58 :: r) [58] = (l.length : Int)
  | [], _ => by
    have hp : ([58] : List UInt8).isPrefixOf (58 :: r) = true := by simp [List.isPrefixOf]
    rw [List.nil_append, Lib.index, hp]; rfl
  | b :: l, h => by
    have hb : b ≠ 58 := h b (by simp)
    have hp : ([58] : List UInt8).isPrefixOf (b :: (l ++ 58 :: r)) = false := by simp [List.isPrefixOf, Ne.symm hb]
    have ih := ix1_hit (r := r) (l := l) fun c hc => h c (List.mem_cons_of_mem b hc)
    rw [List.cons_append, Lib.index, hp, ih]
    have : (((l.length : Int)) == -1) = false := beq_eq_false_iff_ne.2 (by omega)
    simp [this]

/-- Do two colons stand side by side? -/
def cc : List UInt8 → Bool
  | [] => false
  | b :: l => (b == 58 && l.head? == some 58) || cc l
theorem pre2 (b : UInt8) (l : List UInt8) : ([58, 58] : List UInt8).isPrefixOf (b :: l) = (b == 58 && l.head? == some 58) := by
  cases l with
  | nil => simp [List.isPrefixOf]
  | cons c r =>
    simp only [List.isPrefixOf, Bool.and_true, List.head?_cons]
    by_cases h1 : b = 58
    · by_cases h2 : c = 58
      · subst h1; subst h2; rfl
      · have : ((58 : UInt8) == c) = false := by simpa using Ne.symm h2
        simp [h1, this, h2]
    · have : ((58 : UInt8) == b) = false := by simpa using Ne.symm h1
      simp [this, h1]
theorem ix2_none : ∀ {l : List UInt8}, cc l = false → Lib.index l [58, 58] = -1
  | [], _ => rfl
  | b :: l, h => by
    rw [cc, Bool.or_eq_false_iff] at h
    rw [Lib.index, pre2, h.1, ix2_none h.2]; rfl
theorem ix2_hit {r : List UInt8} : ∀ {l : List UInt8}, cc (l ++ [58]) = false → Lib.index (l ++ 58 :: 58 :: r) [58, 58] = (l.length : Int)
  | [], _ => by
    rw [List.nil_append, Lib.index, pre2]; rfl
  | b :: l, h => by
    rw [List.cons_append, cc, Bool.or_eq_false_iff] at h
    have hh : (l ++ 58 :: 58 :: r).head? = (l ++ [58]).head? := by cases l <;> rfl
    have ih := ix2_hit (r := r) h.2
    rw [List.cons_append, Lib.index, pre2, hh, h.1, ih]
    have : (((l.length : Int)) == -1) = false := beq_eq_false_iff_ne.2 (by omega)
    simp [this]

theorem cc_nc {w : List UInt8} : ∀ {l : List UInt8}, nc l → cc (l ++ w) = cc w
  | [], _ => rfl
  | b :: l, h => by
    have hb : (b == 58) = false := by simpa using h b (by simp)
    rw [List.cons_append, cc, hb, cc_nc fun c hc => h c (by simp [hc])]
    rfl
theorem cc_colon {l w : List UInt8} (h : nc l) (h0 : l ≠ []) : cc (58 :: (l ++ w)) = cc w := by
  rw [cc, cc_nc h]
  cases l with
  | nil => exact absurd rfl h0
  | cons b l =>
    have hb : b ≠ 58 := h b (by simp)
    have : ((b :: l ++ w).head? == some (58 : UInt8)) = false := by simpa using hb
    rw [this]; simp

theorem nc_hex {n : Int} (h0 : 0 ≤ n) (h1 : n ≤ 65535) : nc (u8s (hexL n)) := fun c hc => by
  obtain ⟨x, hx, rfl⟩ := List.mem_map.1 hc
  have := hexL_byte h0 h1 x hx
  intro e
  have e2 := congrArg UInt8.toNat e
  simp at e2
  omega
theorem u8_ne (n : Int) : u8s (hexL n) ≠ [] := fun e => hexL_ne n (List.map_eq_nil_iff.1 e)
theorem u8_app (l m : List Int) : u8s (l ++ m) = u8s l ++ u8s m := List.map_append
theorem u8_join_cons (x y : Int) (r : List Int) : u8s (joinS (x :: y :: r)) = u8s (hexL x) ++ 58 :: u8s (joinS (y :: r)) := by
  have e : joinS (x :: y :: r) = hexL x ++ 58 :: joinS (y :: r) := by simp [joinS, joinL]
  rw [e, u8_app]; rfl
theorem u8_join_one (x : Int) : u8s (joinS [x]) = u8s (hexL x) := by
  have e : joinS [x] = hexL x := by simp [joinS, joinL]
  rw [e]

theorem cc_join {w : List UInt8} : ∀ {g : List Int}, gOk g → cc (u8s (joinS g) ++ w) = cc w
  | [], _ => rfl
  | [x], h => by
    have hx := h x (by simp)
    rw [u8_join_one, cc_nc (nc_hex hx.1 hx.2)]
  | x :: y :: r, h => by
    have hx := h x (by simp)
    have hy := h y (by simp)
    have ih := cc_join (w := w) (g := y :: r) fun n hn => h n (by simp [hn])
    rw [u8_join_cons, List.append_assoc, cc_nc (nc_hex hx.1 hx.2), List.cons_append, cc, ih]
    have hh : ((u8s (joinS (y :: r)) ++ w).head? == some (58 : UInt8)) = false := by
      have e : ∃ m, joinS (y :: r) = hexL y ++ m := ⟨_, rfl⟩
      obtain ⟨m, e⟩ := e
      rw [e, u8_app]
      have hn := nc_hex hy.1 hy.2
      cases e2 : u8s (hexL y) with
      | nil => exact absurd e2 (u8_ne y)
      | cons b l =>
        rw [e2] at hn
        have : b ≠ 58 := hn b (by simp)
        simpa using this
    rw [hh]; simp

/-! ### Split -/

theorem count_join : ∀ {g : List Int}, gOk g → g ≠ [] → (u8s (joinS g)).count 58 = g.length - 1
  | [], _, h => absurd rfl h
  | [x], h, _ => by
    have hx := h x (by simp)
    rw [u8_join_one]
    exact List.count_eq_zero.2 fun hm => nc_hex hx.1 hx.2 _ hm rfl
  | x :: y :: r, h, _ => by
    have hx := h x (by simp)
    have ih := count_join (g := y :: r) (fun n hn => h n (by simp [hn])) (by simp)
    have h0 : (u8s (hexL x)).count 58 = 0 := List.count_eq_zero.2 fun hm => nc_hex hx.1 hx.2 _ hm rfl
    rw [u8_join_cons, List.count_append, h0, List.count_cons_self, ih]
    simp

theorem split_join : ∀ {g : List Int} (k : Nat), gOk g → g ≠ [] → k = g.length - 1 → Lib.splitK [58] 0 k (u8s (joinS g)) = g.map fun n => u8s (hexL n)
  | [], _, _, h, _ => absurd rfl h
  | [x], k, h, _, hk => by
    obtain rfl : k = 0 := by simpa using hk
    rw [u8_join_one]; rfl
  | x :: y :: r, k, h, _, hk => by
    have hx := h x (by simp)
    obtain ⟨k, rfl⟩ : ∃ j, k = j + 1 := ⟨r.length, by simpa using hk⟩
    have ih := split_join (g := y :: r) k (fun n hn => h n (by simp [hn])) (by simp) (by simp at hk ⊢; omega)
    rw [u8_join_cons, Lib.splitK, ix1_hit (nc_hex hx.1 hx.2)]
    have e1 : (((u8s (hexL x)).length : Int) == -1) = false := beq_eq_false_iff_ne.2 (by omega)
    rw [e1]
    simp only [Bool.false_eq_true, if_false, Int.toNat_natCast, Nat.add_zero, List.length_singleton, List.map_cons]
    congr 1
    · rw [List.take_append_of_le_length (Nat.le_refl _), List.take_of_length_le (Nat.le_refl _)]
    · rw [List.drop_append, List.drop_of_length_le (by omega), List.nil_append, Nat.add_sub_cancel_left]
      simpa using ih

theorem data_inj {a b : ByteArray} (h : a.data.toList = b.data.toList) : a = b := ByteArray.ext (by rw [← Array.toArray_toList (xs := a.data), ← Array.toArray_toList (xs := b.data), h])
theorem map_data_inj : ∀ {l m : List ByteArray}, l.map (·.data.toList) = m.map (·.data.toList) → l = m
  | [], [], _ => rfl
  | [], _ :: _, h => by cases h
  | _ :: _, [], h => by cases h
  | a :: l, b :: m, h => by
    simp only [List.map_cons, List.cons.injEq] at h
    rw [data_inj h.1, map_data_inj h.2]

theorem LOk_join {g : List Int} (hg : gOk g) (h8 : g.length ≤ 8) : LOk (strOfNums (joinS g)) (g.map hexL) := by
  by_cases h0 : g = []
  · subst h0; exact .inl ⟨rfl, rfl⟩
  · have hne := joinS_ne h0
    have hle := joinS_le g
    refine .inr ⟨?_, by rw [strOfNums_size]; omega, nums_nil _ (List.length_pos_iff.2 hne), fun p hp => ?_, by rw [List.length_map]; omega⟩
    · apply map_data_inj
      rw [Lib.splitB_data]
      have hc : Lib.countB (strOfNums (joinS g)) (ByteArray.mk (Array.mk [58])) = g.length - 1 := by
        show Lib.count (strOfNums (joinS g)).data.toList [58] = _
        rw [Lib.count_one, nums_data, count_join hg h0]
      rw [hc]
      show Lib.splitK [58] 0 (g.length - 1) (u8s (joinS g)) = _
      rw [split_join _ hg h0 rfl, List.map_map, List.map_map]
      rfl
    · obtain ⟨n, hn, rfl⟩ := List.mem_map.1 hp
      exact hexL_part (hg n hn).1 (hg n hn).2

theorem ofG_grps {a : List Int} (ha : isA a) : ofG (grps a) = a := by
  obtain ⟨x0, x1, x2, x3, x4, x5, x6, x7, x8, x9, x10, x11, x12, x13, x14, x15, rfl⟩ := len16 ha.1
  have hb := ha.2
  simp only [List.mem_cons, List.mem_nil_iff, or_false, forall_eq_or_imp, forall_eq] at hb
  have e : ofG (grps [x0, x1, x2, x3, x4, x5, x6, x7, x8, x9, x10, x11, x12, x13, x14, x15]) = [(x0 * 256 + x1) / 256, (x0 * 256 + x1) % 256, (x2 * 256 + x3) / 256, (x2 * 256 + x3) % 256, (x4 * 256 + x5) / 256, (x4 * 256 + x5) % 256, (x6 * 256 + x7) / 256, (x6 * 256 + x7) % 256, (x8 * 256 + x9) / 256, (x8 * 256 + x9) % 256, (x10 * 256 + x11) / 256, (x10 * 256 + x11) % 256, (x12 * 256 + x13) / 256, (x12 * 256 + x13) % 256, (x14 * 256 + x15) / 256, (x14 * 256 + x15) % 256] := rfl
  have d : ∀ {x y : Int}, (0 ≤ x ∧ x ≤ 255) → (0 ≤ y ∧ y ≤ 255) → (x * 256 + y) / 256 = x := fun h1 h2 => by omega
  have m : ∀ {x y : Int}, (0 ≤ x ∧ x ≤ 255) → (0 ≤ y ∧ y ≤ 255) → (x * 256 + y) % 256 = y := fun h1 h2 => by omega
  obtain ⟨k0, k1, k2, k3, k4, k5, k6, k7, k8, k9, k10, k11, k12, k13, k14, k15⟩ := hb
  rw [e, d k0 k1, m k0 k1, d k2 k3, m k2 k3, d k4 k5, m k4 k5, d k6 k7, m k6 k7, d k8 k9, m k8 k9, d k10 k11, m k10 k11, d k12 k13, m k12 k13, d k14 k15, m k14 k15]
theorem ofOk_grps {a : List Int} (ha : isA a) : ofOk (grps a) = true := by
  unfold ofOk inG
  rw [grps_len]
  refine Bool.and_eq_true_iff.2 ⟨rfl, List.all_eq_true.2 fun x hx => decide_eq_true (grps_bound ha x hx)⟩

theorem zr_take : ∀ (l : List Int) (n : Nat), n ≤ zr l → l.take n = List.replicate n 0
  | _, 0, _ => by simp
  | [], n + 1, h => by simp [zr] at h
  | x :: l, n + 1, h => by
    unfold zr at h
    split at h
    · rename_i hx
      rw [List.take_succ_cons, zr_take l n (by omega), hx, List.replicate_succ]
    · omega

theorem textG_le (g : List Int) (h8 : g.length = 8) : (textG g).length ≤ 60 := by
  unfold textG
  split
  · have := joinS_le g; omega
  · have h1 := joinS_le (g.take (runI g).1.toNat)
    have h2 := joinS_le (g.drop ((runI g).1.toNat + (runI g).2.toNat))
    rw [List.length_take] at h1
    rw [List.length_drop] at h2
    simp only [List.length_append, List.length_cons, List.length_nil]
    obtain ⟨b1, b2, b3⟩ := runI_bound g h8
    omega

theorem parse_text (a : List Int) (ha : isA a) (h : AHeap) : PureA Tryd.prog 10 [.str (strOfNums (textL a))] h (.tup [.agg (cat b1 a), .int .i64 0]) := by
  have h8 := grps_len a
  have hg : gOk (grps a) := grps_bound ha
  have hle := textG_le (grps a) h8
  have tx : textL a = textG (grps a) := rfl
  have ho := ofOk_grps ha
  have hG := ofG_grps ha
  rcases same_run (grps a) h8 with ⟨h1, h2⟩ | ⟨h1, h2, h3⟩
  · have et : textG (grps a) = joinS (grps a) := by unfold textG; rw [h1, if_pos rfl]
    have hcut : Lib.cut (strOfNums (textL a)).data.toList (ByteArray.mk (Array.mk [58, 58])).data.toList = ((strOfNums (textL a)).data.toList, (strOfNums []).data.toList, false) := by
      show Lib.cut (u8s (textL a)) [58, 58] = _
      rw [tx, et]
      have := cc_join (w := []) hg
      rw [List.append_nil] at this
      unfold Lib.cut
      rw [ix2_none this]
      rfl
    have hL := LOk_join hg (by omega)
    rw [← et, ← tx] at hL
    have hF : fullG false ((grps a).map hexL |>.map valL) (([] : List (List Int)).map valL) = grps a := by
      unfold fullG
      rw [val_map hg]; simp
    have := parse_ok (strOfNums (textL a)) (strOfNums (textL a)) (strOfNums []) false ((grps a).map hexL) [] (by rw [strOfNums_size, tx]; omega) hcut hL (.inl ⟨rfl, rfl⟩) (by rw [List.length_map, h8]; decide) (by rw [hF]; exact ho) (by rw [hF, hG]) h
    rw [hF, hG] at this
    exact this
  · obtain ⟨b1', b2', b3'⟩ := runI_bound (grps a) h8
    obtain ⟨A, hA⟩ := Int.eq_ofNat_of_zero_le b1'
    obtain ⟨Z, hZ⟩ := Int.eq_ofNat_of_zero_le b2'
    have hZ2 : 2 ≤ Z := by omega
    have hAZ : A + Z ≤ 8 := by omega
    have et : textG (grps a) = joinS ((grps a).take A) ++ [58, 58] ++ joinS ((grps a).drop (A + Z)) := by
      unfold textG
      rw [if_neg (by omega), hA, hZ, Int.toNat_natCast, Int.toNat_natCast]
    rw [hA, hZ, Int.toNat_natCast] at h3
    have hg1 : gOk ((grps a).take A) := fun x hx => hg x (List.mem_of_mem_take hx)
    have hg2 : gOk ((grps a).drop (A + Z)) := fun x hx => hg x (List.mem_of_mem_drop hx)
    have hcut : Lib.cut (strOfNums (textL a)).data.toList (ByteArray.mk (Array.mk [58, 58])).data.toList = ((strOfNums (joinS ((grps a).take A))).data.toList, (strOfNums (joinS ((grps a).drop (A + Z)))).data.toList, true) := by
      show Lib.cut (u8s (textL a)) [58, 58] = _
      rw [tx, et, u8_app, u8_app, List.append_assoc]
      have e58 : u8s [58, 58] = [58, 58] := rfl
      rw [e58]
      have hc := cc_join (w := [58]) hg1
      have hix := ix2_hit (r := u8s (joinS ((grps a).drop (A + Z)))) (l := u8s (joinS ((grps a).take A))) (by rw [hc]; rfl)
      have e3 : u8s (joinS ((grps a).take A)) ++ ([58, 58] ++ u8s (joinS ((grps a).drop (A + Z)))) = u8s (joinS ((grps a).take A)) ++ 58 :: 58 :: u8s (joinS ((grps a).drop (A + Z))) := rfl
      rw [e3]
      unfold Lib.cut
      rw [hix, if_pos (by omega), Int.toNat_natCast, nums_data, nums_data]
      refine Prod.ext ?_ (Prod.ext ?_ rfl)
      · simp
      · simp only [List.length_cons, List.length_nil]
        rw [List.drop_append, List.drop_of_length_le (by omega), List.nil_append, Nat.add_sub_cancel_left]
        rfl
    have hF : fullG true (((grps a).take A).map hexL |>.map valL) (((grps a).drop (A + Z)).map hexL |>.map valL) = grps a := by
      unfold fullG
      rw [val_map hg1, val_map hg2, if_pos rfl, List.length_take, List.length_drop, h8]
      have e1 : 8 - min A 8 - (8 - (A + Z)) = Z := by omega
      rw [e1, ← zr_take ((grps a).drop A) Z (by omega)]
      have e2 : (grps a).drop (A + Z) = ((grps a).drop A).drop Z := by rw [List.drop_drop]
      rw [e2, List.append_assoc, List.take_append_drop, List.take_append_drop]
    have := parse_ok (strOfNums (textL a)) (strOfNums (joinS ((grps a).take A))) (strOfNums (joinS ((grps a).drop (A + Z)))) true (((grps a).take A).map hexL) (((grps a).drop (A + Z)).map hexL) (by rw [strOfNums_size, tx]; omega) hcut (LOk_join hg1 (by rw [List.length_take]; omega)) (LOk_join hg2 (by rw [List.length_drop]; omega)) (by rw [List.length_map, List.length_map, List.length_take, List.length_drop, h8]; omega) (by rw [hF]; exact ho) (by rw [hF, hG]) h
    rw [hF, hG] at this
    exact this

end Go.Proofs.YtdlghfekgecjjaaDoor
