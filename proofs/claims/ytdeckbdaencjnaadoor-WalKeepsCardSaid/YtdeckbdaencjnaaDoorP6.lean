/-
  Records in sectors, as plain functions. Conditions: none.
-/
import Derived.Test.YtdeckbdaencjnaaDoorS8
set_option linter.unusedVariables false
set_option linter.unusedSimpArgs false
namespace Go.Proofs.YtdeckbdaencjnaaDoor
open Go.RowKit
/-- A part of a record, as it stands in a sector. -/
structure Pc where
  epoch : Int
  at_ : Int
  index : Int
  count : Int
  data : List Int
def Pc.zero : Pc := ⟨0, 0, 0, 0, []⟩
structure Pc.Ok (p : Pc) : Prop where
  e0 : 0 ≤ p.epoch
  e1 : p.epoch ≤ 4294967295
  a0 : 0 ≤ p.at_
  a1 : p.at_ ≤ 2199023255552
  c0 : 1 ≤ p.count
  c1 : p.count ≤ 1024
  i0 : 0 ≤ p.index
  i1 : p.index < p.count
  d0 : p.data.length ≤ 44
  d1 : p.index < p.count - 1 → p.data.length = 44
theorem Pc.ok_iff (p : Pc) : p.Ok ↔ (0 ≤ p.epoch ∧ p.epoch ≤ 4294967295 ∧ 0 ≤ p.at_ ∧ p.at_ ≤ 2199023255552 ∧ 1 ≤ p.count ∧ p.count ≤ 1024 ∧ 0 ≤ p.index ∧ p.index < p.count ∧ p.data.length ≤ 44 ∧ (p.index < p.count - 1 → p.data.length = 44)) :=
  ⟨fun h => ⟨h.e0, h.e1, h.a0, h.a1, h.c0, h.c1, h.i0, h.i1, h.d0, h.d1⟩, fun ⟨a, b, c, d, e, f, g, h, i, j⟩ => ⟨a, b, c, d, e, f, g, h, i, j⟩⟩
instance (p : Pc) : Decidable p.Ok := decidable_of_iff _ p.ok_iff.symm
def Pc.may (p : Pc) : Bool := decide p.Ok
def Pc.nums (p : Pc) : List Int := le 4 p.epoch ++ (le 6 p.at_ ++ (le 2 p.index ++ (le 2 p.count ++ le 2 p.data.length)))
def Pc.body (p : Pc) : List Int := p.nums ++ (p.data ++ List.replicate (44 - p.data.length) 0)
def Pc.sec (p : Pc) : List Int := le 4 (sumOf p.body) ++ p.body
theorem Pc.nums_len (p : Pc) : p.nums.length = 16 := by simp [Pc.nums, le_len]
theorem Pc.body_len {p : Pc} (h : p.data.length ≤ 44) : p.body.length = 60 := by
  simp [Pc.body, Pc.nums_len]; omega
theorem Pc.sec_len {p : Pc} (h : p.data.length ≤ 44) : p.sec.length = 64 := by simp [Pc.sec, le_len, Pc.body_len h]
theorem Pc.nums_bys (p : Pc) : Bys p.nums := (le_bys _ _).app ((le_bys _ _).app ((le_bys _ _).app ((le_bys _ _).app (le_bys _ _))))
theorem Pc.body_bys {p : Pc} (h : Bys p.data) : Bys p.body := p.nums_bys.app (h.app (Bys.zeros _))
theorem Pc.sec_bys {p : Pc} (h : Bys p.data) : Bys p.sec := (le_bys _ _).app (Pc.body_bys h)

/-! ### Read -/
/-- The number of so many bytes at a place. -/
def numAt (b : List Int) (i n : Nat) : Int := unle ((b.drop i).take n)
def sizeOf6 (b : List Int) : Int := numAt b 18 1
def pcOf (b : List Int) : Pc := ⟨numAt b 4 4, numAt b 8 6, numAt b 14 2, numAt b 16 2, (b.drop 20).take (sizeOf6 b).toNat⟩
def form6 (b : List Int) : Bool := decide (sizeOf6 b ≤ 44) && decide (numAt b 19 1 = 0) && decide (b.drop (20 + (sizeOf6 b).toNat) = List.replicate (44 - (sizeOf6 b).toNat) 0)
def readE (b : List Int) : Int :=
  if b.length < 64 then 2 else if 64 < b.length then 3 else if numAt b 0 4 ≠ sumOf (b.drop 4) then 4 else if form6 b = false then 3 else if (pcOf b).may = false then 3 else 0
def readP (b : List Int) : Pc := if readE b = 0 then pcOf b else Pc.zero
theorem numAt_at {a b c : List Int} {i n : Nat} (h1 : a.length = i) (h2 : b.length = n) : numAt (a ++ (b ++ c)) i n = unle b := by
  unfold numAt
  rw [cut_at h1 h2]
theorem numAt_bd {b : List Int} (h : Bys b) (i n : Nat) : 0 ≤ numAt b i n ∧ numAt b i n < 256 ^ n := by
  have hb : Bys ((b.drop i).take n) := (h.drop _).take _
  refine ⟨unle_nonneg hb, Int.lt_of_lt_of_le (unle_lt hb) ?_⟩
  have : ((b.drop i).take n).length ≤ n := List.length_take_le _ _
  have e : ∀ k : Nat, (256 : Int) ^ k = ((256 ^ k : Nat) : Int) := fun k => (Int.natCast_pow 256 k).symm
  have h2 := Nat.pow_le_pow_right (show 0 < 256 by decide) this
  rw [e, e]
  exact Int.ofNat_le.2 h2
/-- What was written is read. -/
theorem read_sec {p : Pc} (hp : p.Ok) (hb : Bys p.data) : readE p.sec = 0 ∧ pcOf p.sec = p := by
  have hl := hp.d0
  have h64 := Pc.sec_len hl
  have hbl := Pc.body_len hl
  have hs := sumOf_bd p.body
  have e0 : numAt p.sec 0 4 = sumOf p.body := by
    have : p.sec = [] ++ (le 4 (sumOf p.body) ++ p.body) := rfl
    rw [this, numAt_at (a := []) (i := 0) (n := 4) rfl (le_len _ _), unle_le_of hs.1 (by simpa using hs.2)]
  have ed : p.sec.drop 4 = p.body := by unfold Pc.sec; rw [List.drop_left' (le_len _ _)]
  have hsec : p.sec = le 4 (sumOf p.body) ++ (le 4 p.epoch ++ (le 6 p.at_ ++ (le 2 p.index ++ (le 2 p.count ++ (le 2 (p.data.length : Int) ++ (p.data ++ List.replicate (44 - p.data.length) 0)))))) := by
    simp only [Pc.sec, Pc.body, Pc.nums, List.append_assoc]
  have e1 : numAt p.sec 4 4 = p.epoch := by
    rw [hsec, numAt_at (le_len _ _) (le_len _ _)]
    exact unle_le_of hp.e0 (by have := hp.e1; show p.epoch < 4294967296; omega)
  have e2 : numAt p.sec 8 6 = p.at_ := by
    rw [hsec, ← List.append_assoc (le 4 _) (le 4 _), numAt_at (by simp [le_len]) (le_len _ _)]
    exact unle_le_of hp.a0 (by have := hp.a1; show p.at_ < 281474976710656; omega)
  have e3 : numAt p.sec 14 2 = p.index := by
    rw [hsec, ← List.append_assoc (le 4 _) (le 4 _), ← List.append_assoc _ (le 6 _), numAt_at (by simp [le_len]) (le_len _ _)]
    exact unle_le_of hp.i0 (by have := hp.i1; have := hp.c1; show p.index < 65536; omega)
  have e4 : numAt p.sec 16 2 = p.count := by
    rw [hsec, ← List.append_assoc (le 4 _) (le 4 _), ← List.append_assoc _ (le 6 _), ← List.append_assoc _ (le 2 p.index), numAt_at (by simp [le_len]) (le_len _ _)]
    exact unle_le_of (by have := hp.c0; omega) (by have := hp.c1; show p.count < 65536; omega)
  have hle2 : le 2 (p.data.length : Int) = [(p.data.length : Int)] ++ [0] := by
    simp only [le, List.cons_append, List.nil_append]
    have h1 : (p.data.length : Int) % 256 = p.data.length := by omega
    have h2 : (p.data.length : Int) / 256 = 0 := by omega
    rw [h1, h2]; rfl
  have hsec2 : p.sec = (le 4 (sumOf p.body) ++ (le 4 p.epoch ++ (le 6 p.at_ ++ (le 2 p.index ++ le 2 p.count)))) ++ ([(p.data.length : Int)] ++ ([0] ++ (p.data ++ List.replicate (44 - p.data.length) 0))) := by
    rw [hsec, hle2]; simp only [List.append_assoc]
  have hA : (le 4 (sumOf p.body) ++ (le 4 p.epoch ++ (le 6 p.at_ ++ (le 2 p.index ++ le 2 p.count)))).length = 18 := by simp [le_len]
  have e5 : sizeOf6 p.sec = p.data.length := by
    unfold sizeOf6
    rw [hsec2, numAt_at (i := 18) (n := 1) hA (by rfl)]
    simp [unle]
  have e6 : numAt p.sec 19 1 = 0 := by
    rw [hsec2, ← List.append_assoc _ [(p.data.length : Int)], numAt_at (i := 19) (n := 1) (by rw [List.length_append, hA]; rfl) (by rfl)]
    rfl
  have hsec3 : p.sec = ((le 4 (sumOf p.body) ++ (le 4 p.epoch ++ (le 6 p.at_ ++ (le 2 p.index ++ le 2 p.count)))) ++ [(p.data.length : Int)] ++ [0]) ++ (p.data ++ List.replicate (44 - p.data.length) 0) := by
    rw [hsec2]; simp only [List.append_assoc]
  have hB : ((le 4 (sumOf p.body) ++ (le 4 p.epoch ++ (le 6 p.at_ ++ (le 2 p.index ++ le 2 p.count)))) ++ [(p.data.length : Int)] ++ [0]).length = 20 := by rw [List.length_append, List.length_append, hA]; rfl
  have e7 : p.sec.drop 20 = p.data ++ List.replicate (44 - p.data.length) 0 := by rw [hsec3, List.drop_left' hB]
  have e8 : p.sec.drop (20 + p.data.length) = List.replicate (44 - p.data.length) 0 := by
    rw [← List.drop_drop, e7, List.drop_left' rfl]
  have hpc : pcOf p.sec = p := by
    unfold pcOf
    rw [e1, e2, e3, e4, e5, e7, Int.toNat_natCast, List.take_left' rfl]
  have hf : form6 p.sec = true := by
    unfold form6
    rw [e5, e6, Int.toNat_natCast, e8]
    simp; omega
  refine ⟨?_, hpc⟩
  unfold readE
  rw [if_neg (by omega), if_neg (by omega), if_neg (by rw [e0, ed]; simp), if_neg (by rw [hf]; decide), if_neg (by rw [hpc]; simp [Pc.may, hp])]
theorem readP_sec {p : Pc} (hp : p.Ok) (hb : Bys p.data) : readP p.sec = p := by
  obtain ⟨h1, h2⟩ := read_sec hp hb
  unfold readP
  rw [if_pos h1, h2]
/-- A sector of nothing tells nothing. -/
theorem read_zero : readE (List.replicate 64 0) = 4 := by decide +kernel

/-! ### Gather, Cut -/
def Pc.Stamp (p : Pc) (e c a i : Int) : Prop := p.epoch = e ∧ p.count = c ∧ p.at_ = a ∧ p.index = i
instance (p : Pc) (e c a i : Int) : Decidable (p.Stamp e c a i) := by unfold Pc.Stamp; infer_instance
/-- What is gathered: the error, the bytes, the epoch, how many pieces. -/
structure Gat where
  e : Int
  data : List Int
  epoch : Int
  count : Int
def Gat.no (e : Int) : Gat := ⟨e, [], 0, 0⟩
/-- On from the k-th sector, of a record of such an epoch and count; the place that is wanted. -/
def gatherOn (epoch count : Int) : List (List Int) → Int → Int → List Int → Gat
  | [], _, _, _ => Gat.no 2
  | b :: l, k, at_, acc =>
    if readE b ≠ 0 then Gat.no (readE b)
    else if ¬ (pcOf b).Stamp epoch count at_ k then Gat.no 3
    else if k = count - 1 then ⟨0, acc ++ (pcOf b).data, epoch, count⟩
    else gatherOn epoch count l (k + 1) (at_ + 1) (acc ++ (pcOf b).data)
def gather (l : List (List Int)) (at_ : Int) : Gat :=
  match l with
  | [] => Gat.no 2
  | b :: l => if readE b ≠ 0 then Gat.no (readE b) else gatherOn (pcOf b).epoch (pcOf b).count (b :: l) 0 at_ []
def need (n : Nat) : Nat := if n ≤ 44 then 1 else (n - 1) / 44 + 1
def piece (epoch at_ : Int) (b : List Int) (k : Nat) : Pc := ⟨epoch, at_ + k, k, need b.length, (b.drop (44 * k)).take 44⟩
def cutL (epoch at_ : Int) (b : List Int) : List (List Int) := (List.range (need b.length)).map fun k => (piece epoch at_ b k).sec
def cutE (epoch at_ : Int) (b : List Int) : Int := if 1024 < need b.length then 13 else if at_ < 0 ∨ 2199023255552 - (need b.length : Int) + 1 < at_ then 1 else 0
theorem need_pos (n : Nat) : 1 ≤ need n := by unfold need; split <;> omega
theorem need_cover (n : Nat) : n ≤ 44 * need n := by unfold need; split <;> omega
theorem need_tight (n : Nat) : 44 * (need n - 1) ≤ n := by unfold need; split <;> omega
theorem need_tight' {n : Nat} (h : 44 < n) : 44 * (need n - 1) < n := by unfold need; rw [if_neg (by omega)]; omega
theorem piece_ok {epoch at_ : Int} {b : List Int} {k : Nat} (e0 : 0 ≤ epoch) (e1 : epoch ≤ 4294967295) (hc : cutE epoch at_ b = 0) (hk : k < need b.length) : (piece epoch at_ b k).Ok := by
  unfold cutE at hc
  split at hc
  · exact absurd hc (by decide)
  split at hc
  · exact absurd hc (by decide)
  have h1 := need_pos b.length
  have h2 := need_tight b.length
  refine ⟨e0, e1, by show 0 ≤ at_ + k; omega, by show at_ + (k : Int) ≤ _; omega, by show (1 : Int) ≤ (need b.length : Int); omega, by show (need b.length : Int) ≤ 1024; omega, by show (0 : Int) ≤ (k : Int); omega, by show (k : Int) < (need b.length : Int); omega, ?_, ?_⟩
  · show ((b.drop (44 * k)).take 44).length ≤ 44
    exact List.length_take_le _ _
  · intro h
    have h' : (k : Int) < (need b.length : Int) - 1 := h
    show ((b.drop (44 * k)).take 44).length = 44
    rw [List.length_take, List.length_drop]
    have : 44 * (k + 1) ≤ 44 * (need b.length - 1) := Nat.mul_le_mul_left _ (by omega)
    omega
theorem piece_bys {epoch at_ : Int} {b : List Int} (hb : Bys b) (k : Nat) : Bys (piece epoch at_ b k).data := (hb.drop _).take _
theorem cutL_len (epoch at_ : Int) (b : List Int) : (cutL epoch at_ b).length = need b.length := by simp [cutL]
end Go.Proofs.YtdeckbdaencjnaaDoor
