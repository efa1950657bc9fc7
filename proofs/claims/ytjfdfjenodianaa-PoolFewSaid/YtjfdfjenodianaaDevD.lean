/-
  The device's Write. Conditions: none.
-/
import Derived.Test.YtjfdfjenodianaaDevC
set_option linter.unusedVariables false
set_option linter.unusedSimpArgs false
namespace Go.Proofs.Ytjfdfjenodianaa
open Go.RowKit
open Go.ChangeMaps (setBlock)

/-- Write's answer, and the device behind it. -/
def Dev.writeE (D : Dev) (i : Int) (s : List Int) : Int := if D.may i ≠ 0 then D.may i else if 64 < s.length then 1 else D.spendE
def Dev.write (D : Dev) (i : Int) (s : List Int) : Dev := if D.may i ≠ 0 then D else if 64 < s.length then D else if D.budget = 0 then D.spend else D.spend.put i.toNat (pad64 s)

theorem und_bytes : Try.prog.underlying 33 = some (.slice 5) := by kernel_rfl
theorem size_u8 : (Try.prog.info? 5).map (·.size) = some 1 := by kernel_rfl
theorem pad64_len (s : List Int) (h : s.length ≤ 64) : (pad64 s).length = 64 := by simp [pad64]; omega
theorem splice_pad (s : List Int) (h : s.length ≤ 64) : splice (zsec.map (Value.int .u8)) 0 (s.map (Value.int .u8)) = (pad64 s).map (Value.int .u8) := by
  have : zsec.drop s.length = List.replicate (64 - s.length) 0 := by unfold zsec; rw [List.drop_replicate]
  simp [splice, pad64, ← List.map_drop, this]
theorem Dev.spend_ok {D : Dev} (h : D.Ok) : D.spend.Ok := by
  have h1 := h.least
  have h2 := h.fits
  unfold Dev.spend
  split
  · exact ⟨h.len, h.secs, h.lates, h.pos, h.most, h.least, h.fits⟩
  · refine ⟨h.len, h.secs, h.lates, h.pos, h.most, ?_, ?_⟩
    · simp only; split <;> omega
    · simp only; split <;> omega
theorem Dev.spend_laid (D : Dev) : D.spend.laid = D.laid := by unfold Dev.spend; split <;> rfl
theorem Dev.spend_late (D : Dev) : D.spend.late = D.late := by unfold Dev.spend; split <;> rfl
theorem Dev.put_look (D : Dev) (i : Nat) (s : List Int) (hi : i < D.late.length) : (D.put i s).look = upd D.look (.int .i64 (i : Int)) (secVal s) := by
  funext x
  by_cases hx : x = .int .i64 (i : Int)
  · subst hx
    rw [upd_same]
    simp [Dev.look, Dev.put, hi]
  · rw [upd_other _ _ _ hx]
    unfold Dev.look
    split
    · rename_i j
      split
      · rename_i hj
        have hne : i ≠ j.toNat := fun e => hx (by rw [e, Int.toNat_of_nonneg hj])
        simp [Dev.put, List.getElem?_set_ne hne]
      · rfl
    · rfl
theorem Dev.put_ok {D : Dev} (h : D.Ok) (i : Nat) (s : List Int) (hs : s.length = 64) : (D.put i s).Ok := by
  refine ⟨by simpa [Dev.put] using h.len, h.secs, fun u hu => ?_, h.pos, h.most, h.least, h.fits⟩
  have hu' : some u ∈ D.late.set i (some s) := hu
  rcases List.mem_or_eq_of_mem_set hu' with hm | he
  · exact h.lates u hm
  · cases he; exact hs

theorem copy_src {S : Nat → Prop} {w w1 : World} {A : Option Addr} {n : Nat} {xs : List Int} (hA : BytesAt w A n xs) (hf : Fr S w w1) (hne : 0 < n → ∀ ad, A = some ad → ¬ S ad.block) (o : Obj) :
    0 < (xs.map (Value.int .u8)).length → ∃ ad, A = some ad ∧ ∀ j v, (xs.map (Value.int .u8))[j]? = some v → (w1.alloc o).cell? (ad.add j) = some v := by
  intro hp
  rw [List.length_map, hA.len] at hp
  exact ((hA.keep hf hne).keep0 ((Fr.refl F0 w1).alloc o)).cells hp
theorem copy_len {n : Nat} {xs : List Int} (h : xs.length = n) (hn : n ≤ 64) : (xs.map (Value.int .u8)).length = Nat.min n 64 := by rw [List.length_map, h]; exact (Nat.min_eq_left hn).symm
theorem copy_fit {n : Nat} {xs : List Int} (h : xs.length = n) (hn : n ≤ 64) : 0 + (xs.map (Value.int .u8)).length ≤ (zsec.map (Value.int .u8)).length := by rw [List.length_map, List.length_map, h, zsec_len]; omega
theorem one_bytes (xs : List Int) : ∀ v ∈ xs.map (Value.int .u8), v.oneCell' = true := by intro v hv; obtain ⟨x, _, rfl⟩ := List.mem_map.1 hv; rfl

/-! ### What is written, plainly -/
theorem Dev.may_zero {D : Dev} (hg : D.gone = false) {i : Nat} (hi : i < D.laid.length) : D.may i = 0 := by simp [Dev.may, hg]; omega
theorem Dev.write_ok {D : Dev} (hg : D.gone = false) (hb : D.budget ≠ 0) {i : Nat} (hi : i < D.laid.length) {xs : List Int} (hx : xs.length ≤ 64) :
    D.writeE i xs = 0 ∧ D.write i xs = D.spend.put i (pad64 xs) := by
  have hm := Dev.may_zero hg hi
  have hx' : ¬ 64 < xs.length := by omega
  constructor
  · simp [Dev.writeE, hm, hx', Dev.spendE, hb]
  · simp [Dev.write, hm, hx', hb]
theorem Dev.put_at (D : Dev) (i : Nat) (s : List Int) (hi : i < D.late.length) : (D.put i s).at i = s := by simp [Dev.at, Dev.put, hi]
theorem Dev.put_at_ne (D : Dev) {i j : Nat} (s : List Int) (hij : i ≠ j) : (D.put i s).at j = D.at j := by simp [Dev.at, Dev.put, List.getElem?_set_ne hij]
theorem Dev.spend_at (D : Dev) (j : Nat) : D.spend.at j = D.at j := by simp [Dev.at, Dev.spend_laid, Dev.spend_late]
theorem Dev.spend_go {D : Dev} (hb : D.budget ≠ 0) : D.spend = { D with budget := (if 0 < D.budget then D.budget - 1 else D.budget), spent := wrap64 (D.spent + 1) } := by simp [Dev.spend, hb]
theorem Dev.new_at (n i : Nat) (hi : i < n) : (Dev.new n).at i = zsec := by
  have : ((List.replicate n (none : Option (List Int)))[i]?).join = none := by rw [List.getElem?_replicate]; split <;> rfl
  simp [Dev.at, Dev.new, hi]

section
variable {w : World} {db lb mb : Nat} {D : Dev}

set_option maxRecDepth 100000 in
set_option maxHeartbeats 400000 in
theorem write_yes (h : DevAt Try.prog 3 w db lb mb D) (i : Nat) (hm : D.may i = 0) (A : Option Addr) (c : Nat) (xs : List Int) (n : Nat) (hA : BytesAt w A n xs) (hn : n ≤ 64) (hne : 0 < n → ∀ ad, A = some ad → ad.block ≠ db) (hb : D.budget ≠ 0) :
    Calls Try.prog 18 #[.pointer (some ⟨db, 0, none⟩), .int .i64 (i : Int), .slice A n c] w fun e w' => e = .returned (.int .i64 0) ∧ DevAt Try.prog 3 w' db lb mb (D.spend.put i (pad64 xs)) ∧ Fr (Dv db lb mb) w w' := by
  have hlen : xs.length = n := hA.len
  have hse : D.spendE = 0 := by simp [Dev.spendE, hb]
  have hi : i < D.laid.length := by
    unfold Dev.may at hm
    split at hm
    · omega
    · split at hm <;> omega
  have HB := Lib.hid hb
  have HLEN := Lib.hid hlen
  have HI := Lib.hid hi
  clear hb hlen hi
  have ha := run_alloc_sector
  go_enter Try.func18, Try.ntmps18
  go_wp2_with (first
    | (go_at_call 32; refine (may_c h _).mono ?_; rintro e w' ⟨rfl, rfl⟩; rw [hm])
    | (go_at_call 33; refine (spend_c h).mono ?_; rintro e w1 ⟨rfl, h1, hf1⟩; rw [hse])
    | (refine (?_ : wpList _ _ _ (⟨some 26, _, _, _, _, _⟩ :: _) _ _); refine wpList_copy_splice rfl (.tmp 24) (.tmp 25) 33 33 rfl 5 und_bytes size_u8 _ A 64 64 n c (by rfl) (by rfl) w1.heap.size 0 (zsec.map (Value.int .u8)) 67 (alloc_at rfl _) (xs.map (Value.int .u8)) (copy_len HLEN.out hn) (fun hp => ⟨rfl, copy_src hA hf1 hne _ hp⟩) (copy_fit HLEN.out hn) (one_bytes xs) w1.heap.size w1 ((Below.refl _ _).alloc (Nat.le_refl _) _) (Nat.le_refl _) ?_; intro w2 hg2 hb2))
  have hf2 : Fr F0 w1 w2 := Fr.of_below hb2
  have h2 := h1.keep0 hf2
  obtain ⟨k0, k1, k2, k3, k4, g2, g3, g4⟩ := h2.cells
  obtain ⟨es, cl, hm2, hM⟩ := h2.late
  have HG2 := Lib.hid hg2.out
  have HM2 := Lib.hid hm2
  clear hg2 hm2
  obtain ⟨d, hu, hd⟩ := und_sector
  have HU := Lib.hid hu
  have HD := Lib.hid hd
  have hxl : xs.length ≤ 64 := by rw [HLEN.out]; exact hn
  have HP := Lib.hid (pad64_len xs hxl)
  have HS := Lib.hid (splice_pad xs hxl)
  clear hu hd
  go_still_tail 6, (by kernel_rfl)
  refine wpStill_load_at rfl 67 (.tmp 9) rfl w1.heap.size 0 (by rfl) ((pad64 xs).map (Value.int .u8)) d (fun j v hv => by
    rw [Nat.zero_add]
    refine Eq.trans (cell_of (w := w2) HG2.out j) ?_
    rw [HS.out]
    simpa using hv) HU.out HD.out (by rw [size_sector, List.length_map, HP.out]) ?_
  refine wpStill_nil ?_
  have hki : keyOf Try.prog 3 (.int .i64 (i : Int)) = some (.int .i64 (i : Int)) := key_int i (by have := h.ok.most; have := HI.out; omega)
  refine wpList_mapUpdate_is rfl (.tmp 30) (.tmp 31) (.tmp 32) 51 rfl keyed_int und_map mb HM2.out hM (by rfl) (.int .i64 (i : Int)) (secVal (pad64 xs)) (by rfl) (by rfl) hki ?_
  intro es' cl' hM'
  have HM' := Lib.hid hM'
  clear hM' hM hki
  change wpList _ _ _ _ _ (setBlock w2.drew mb _)
  go_wp2
  go_ret
  have hlate : D.spend.late.length = D.laid.length := by rw [Dev.spend_late]; exact h.ok.len
  have hok := Dev.spend_ok h.ok
  obtain ⟨t1, e1⟩ := h2.dev
  obtain ⟨t2, e2⟩ := h2.laid
  have hL : (D.spend.put i (pad64 xs)).look = upd D.spend.look (.int .i64 (i : Int)) (secVal (pad64 xs)) := Dev.put_look _ _ _ (by rw [hlate]; exact HI.out)
  refine ⟨rfl, ⟨Dev.put_ok hok i _ HP.out, ⟨t1, keep_setBlock (w := w2.drew) e1 h2.ne2 _⟩, ⟨t2, keep_setBlock (w := w2.drew) e2 h2.ne3 _⟩, ⟨es', cl', set_block (w := w2.drew) HM2.out _, ?_⟩, h2.ne1, h2.ne2, h2.ne3⟩, ?_⟩
  · rw [hL]; exact HM'.out
  · exact (((hf1.mono (fun _ e => .inl e)).then0 hf2).drew).setBlock (.inl (.inr (.inr rfl))) _

set_option maxRecDepth 100000 in
set_option maxHeartbeats 400000 in
theorem write_may (h : DevAt Try.prog 3 w db lb mb D) (i : Int) (hm : D.may i ≠ 0) (A : Option Addr) (n c : Nat) :
    Calls Try.prog 18 #[.pointer (some ⟨db, 0, none⟩), .int .i64 i, .slice A n c] w fun e w' => e = .returned (.int .i64 (D.may i)) ∧ w = w' := by
  have hb : (D.may i != 0) = true := by simpa using hm
  go_enter Try.func18, Try.ntmps18
  go_wp2_with (go_at_call 32; refine (may_c h _).mono ?_; rintro e w' ⟨rfl, rfl⟩)
  go_ret
  exact ⟨rfl, rfl⟩

set_option maxRecDepth 100000 in
set_option maxHeartbeats 400000 in
theorem write_long (h : DevAt Try.prog 3 w db lb mb D) (i : Int) (hm : D.may i = 0) (A : Option Addr) (n c : Nat) (hn : 64 < n) :
    Calls Try.prog 18 #[.pointer (some ⟨db, 0, none⟩), .int .i64 i, .slice A n c] w fun e w' => e = .returned (.int .i64 1) ∧ w = w' := by
  have hn' : ¬ n ≤ 64 := by omega
  have hn2 : (64 : Int) < (n : Int) := by omega
  go_enter Try.func18, Try.ntmps18
  go_wp2_with (go_at_call 32; refine (may_c h _).mono ?_; rintro e w' ⟨rfl, rfl⟩; rw [hm])
  go_ret
  exact ⟨rfl, rfl⟩

set_option maxRecDepth 100000 in
set_option maxHeartbeats 400000 in
theorem write_spent (h : DevAt Try.prog 3 w db lb mb D) (i : Int) (hm : D.may i = 0) (A : Option Addr) (n c : Nat) (hn : n ≤ 64) (hb : D.budget = 0) :
    Calls Try.prog 18 #[.pointer (some ⟨db, 0, none⟩), .int .i64 i, .slice A n c] w fun e w' => e = .returned (.int .i64 11) ∧ DevAt Try.prog 3 w' db lb mb D.spend ∧ Fr (fun k => k = db) w w' := by
  have hse : D.spendE = 11 := by simp [Dev.spendE, hb]
  have HB := Lib.hid hb
  clear hb
  go_enter Try.func18, Try.ntmps18
  go_wp2_with (first
    | (go_at_call 32; refine (may_c h _).mono ?_; rintro e w' ⟨rfl, rfl⟩; rw [hm])
    | (go_at_call 33; refine (spend_c h).mono ?_; rintro e w1 ⟨rfl, h1, hf1⟩; rw [hse]))
  go_ret
  exact ⟨rfl, h1, hf1⟩

set_option maxRecDepth 100000 in
set_option maxHeartbeats 400000 in
theorem write_nil (i : Int) (v : Value) (w : World) : Calls Try.prog 18 #[.pointer none, .int .i64 i, v] w fun e w' => e = .returned (.int .i64 11) ∧ w = w' := by
  go_enter Try.func18, Try.ntmps18
  go_wp2_with (go_at_call 32; refine (may_nil _ _).mono ?_; rintro e w' ⟨rfl, rfl⟩)
  go_ret
  exact ⟨rfl, rfl⟩

theorem Dev.may_nonneg {D : Dev} {i : Int} (h : D.may i = 0) : 0 ≤ i ∧ i < (D.laid.length : Int) := by
  unfold Dev.may at h
  split at h
  · omega
  · split at h <;> omega

/-- Write, whatever is written. -/
theorem write_c (h : DevAt Try.prog 3 w db lb mb D) (i : Int) (A : Option Addr) (c : Nat) (xs : List Int) (n : Nat) (hA : BytesAt w A n xs) (hne : 0 < n → ∀ ad, A = some ad → ad.block ≠ db) :
    Calls Try.prog 18 #[.pointer (some ⟨db, 0, none⟩), .int .i64 i, .slice A n c] w fun e w' => e = .returned (.int .i64 (D.writeE i xs)) ∧ DevAt Try.prog 3 w' db lb mb (D.write i xs) ∧ Fr (Dv db lb mb) w w' := by
  have hl := hA.len
  by_cases hm : D.may i = 0
  · by_cases hn : n ≤ 64
    · by_cases hb : D.budget = 0
      · refine (write_spent h i hm A n c hn hb).mono ?_
        rintro e w' ⟨rfl, h1, hf⟩
        refine ⟨?_, ?_, hf.mono fun _ e => .inl e⟩
        · simp [Dev.writeE, hm, hl, Dev.spendE, hb]; omega
        · have : D.write i xs = D.spend := by simp [Dev.write, hm, hl, hb]; intro; omega
          rw [this]; exact h1
      · obtain ⟨j, rfl⟩ := Int.eq_ofNat_of_zero_le (Dev.may_nonneg hm).1
        refine (write_yes h j hm A c xs n hA hn hne hb).mono ?_
        rintro e w' ⟨rfl, h1, hf⟩
        refine ⟨?_, ?_, hf⟩
        · simp [Dev.writeE, hm, hl, Dev.spendE, hb]; omega
        · have : D.write (j : Int) xs = D.spend.put j (pad64 xs) := by simp [Dev.write, hm, hl, hb]; intro; omega
          rw [this]; exact h1
    · refine (write_long h i hm A n c (by omega)).mono ?_
      rintro e w' ⟨rfl, rfl⟩
      refine ⟨?_, ?_, Fr.refl _ _⟩
      · simp [Dev.writeE, hm, hl]; intro; omega
      · have : D.write i xs = D := by simp [Dev.write, hm, hl]; intro; omega
        rw [this]; exact h
  · refine (write_may h i hm A n c).mono ?_
    rintro e w' ⟨rfl, rfl⟩
    refine ⟨?_, ?_, Fr.refl _ _⟩
    · simp [Dev.writeE, hm]
    · have : D.write i xs = D := by simp [Dev.write, hm]
      rw [this]; exact h
end
end Go.Proofs.Ytjfdfjenodianaa
