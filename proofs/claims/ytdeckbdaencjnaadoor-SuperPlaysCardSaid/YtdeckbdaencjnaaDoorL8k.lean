/-
  SuperPlays: the walk. Conditions: none.
-/
import Derived.Test.YtdeckbdaencjnaaDoorL8j
import Derived.Test.YtdeckbdaencjnaaDoorActs8
import Derived.Test.YtdeckbdaencjnaaDoorTurn
import Derived.Deep.CutBlock
import Derived.Deep.CutRange
set_option linter.unusedVariables false
set_option linter.unusedSimpArgs false
namespace Go.Proofs.YtdeckbdaencjnaaDoor
open Go.RowKit
section
variable {w : World} {db lb mb rb qb tb : Nat} {D : Dev}
set_option maxRecDepth 100000 in
set_option maxHeartbeats 1000000 in
theorem load_nil : Calls Tryd.prog 22 #[.pointer none] w fun e w' => e = .returned (.tuple #[(.agg #[.int .i64 Sup.zero.version, .int .i64 Sup.zero.epoch, .int .i64 Sup.zero.blocks, .int .i64 Sup.zero.counters, .int .i64 Sup.zero.log, .int .i64 Sup.zero.head, .int .i64 Sup.zero.applied]), .int .i64 11]) ∧ Fr F0 w w' := by
  have H1 : Hid (Fr F0 w (((w.alloc (.cells #[.int .i64 0, .int .i64 0, .int .i64 0, .int .i64 0, .int .i64 0, .int .i64 0, .int .i64 0] 29)).alloc (.cells #[.int .i64 0, .int .i64 0, .int .i64 0, .int .i64 0, .int .i64 0, .int .i64 0, .int .i64 0] 29)).alloc (.cells #[.slice none 0 0, .slice none 0 0] 110))) := Lib.hid ((((Fr.refl _ _).alloc _).alloc _).alloc _)
  have R0 : Hid ((((w.alloc (.cells #[.int .i64 0, .int .i64 0, .int .i64 0, .int .i64 0, .int .i64 0, .int .i64 0, .int .i64 0] 29)).alloc (.cells #[.int .i64 0, .int .i64 0, .int .i64 0, .int .i64 0, .int .i64 0, .int .i64 0, .int .i64 0] 29)).alloc (.cells #[.slice none 0 0, .slice none 0 0] 110)).heap[w.heap.size]? = some (.cells Sup.zero.cells.toArray 29 (0, 0))) := Lib.hid (keep_alloc (keep_alloc (alloc_at rfl _) _) _)
  go_enter Tryd.func22, Tryd.ntmps22
  go_wp2_with fail
  generalize (((w.alloc (.cells #[.int .i64 0, .int .i64 0, .int .i64 0, .int .i64 0, .int .i64 0, .int .i64 0, .int .i64 0] 29)).alloc (.cells #[.int .i64 0, .int .i64 0, .int .i64 0, .int .i64 0, .int .i64 0, .int .i64 0, .int .i64 0] 29)).alloc (.cells #[.slice none 0 0, .slice none 0 0] 110)) = w1 at *
  refine wp_loop_rounds 3 ?_
  rw [rounds_succ]
  go_wp2_with fail
  refine (read_nil 0 _).mono ?_
  rintro e w2 ⟨rfl, rfl⟩
  go_wp2_with (refine wpList_store_at rfl 29 (.tmp 2) (.tmp 25) rfl w.heap.size 0 Sup.zero.cells (by rfl) (by rfl) 29 Sup.zero.cells R0.out size_super (by decide) (Sup.one _) ?_)
  refine sup_ret (b := w.heap.size) (t := 29) (s := Sup.zero) Tryd.results22 (by rfl) (by rfl) rfl ?_ ⟨rfl, H1.out.setRow (by exact .inr (Nat.le_refl _)) _⟩
  rw [setRow_heap w1 w.heap.size _ _ _ _ R0.out, splat_all _ _ rfl]
/-- Two devices that are the same one, apart. -/
structure Both8 (db lb mb rb qb tb : Nat) (w0 : World) (wr : World) : Prop where
  ex : ∃ D, DevAt Tryd.prog 3 wr db lb mb D ∧ RefAt wr rb qb tb D ∧ SecBys D
  fr : Fr (fun i => Dv db lb mb i ∨ Rv rb qb tb i) w0 wr
/-- While both are written to, the one behind the other. -/
def PlayJ (db lb mb rb qb tb : Nat) (D D1 D2 : Dev) : Nat → (Nat → Value) → World → Prop
  | 0, _, w => DevAt Tryd.prog 3 w db lb mb D ∧ RefAt w rb qb tb D
  | 1, _, w => DevAt Tryd.prog 3 w db lb mb D1 ∧ RefAt w rb qb tb D
  | 2, _, w => DevAt Tryd.prog 3 w db lb mb D1 ∧ RefAt w rb qb tb D1
  | 3, _, w => DevAt Tryd.prog 3 w db lb mb D1 ∧ RefAt w rb qb tb D1
  | 4, _, w => DevAt Tryd.prog 3 w db lb mb D1 ∧ RefAt w rb qb tb D1
  | 5, _, w => DevAt Tryd.prog 3 w db lb mb D2 ∧ RefAt w rb qb tb D1
  | _, _, w => DevAt Tryd.prog 3 w db lb mb D2 ∧ RefAt w rb qb tb D2
theorem PlayJ.keep {db lb mb rb qb tb : Nat} {D D1 D2 : Dev} : ∀ (k : Nat) (us us' : Nat → Value) (w' w'' : World), PlayJ db lb mb rb qb tb D D1 D2 k us w' → (∀ d ∈ ([] : List Nat), us' d = us d) → Fr F0 w' w'' → PlayJ db lb mb rb qb tb D D1 D2 k us' w''
  | 0, _, _, _, _, h, _, hf => ⟨h.1.keep0 hf, h.2.keep0 hf⟩
  | 1, _, _, _, _, h, _, hf => ⟨h.1.keep0 hf, h.2.keep0 hf⟩
  | 2, _, _, _, _, h, _, hf => ⟨h.1.keep0 hf, h.2.keep0 hf⟩
  | 3, _, _, _, _, h, _, hf => ⟨h.1.keep0 hf, h.2.keep0 hf⟩
  | 4, _, _, _, _, h, _, hf => ⟨h.1.keep0 hf, h.2.keep0 hf⟩
  | 5, _, _, _, _, h, _, hf => ⟨h.1.keep0 hf, h.2.keep0 hf⟩
  | _ + 6, _, _, _, _, h, _, hf => ⟨h.1.keep0 hf, h.2.keep0 hf⟩
theorem rload_n (h : RefAt w rb qb tb D) (hB : ∀ i, i < 2 → Bys (D.at i)) :
    Calls Tryd.prog 41 #[.pointer (some ⟨rb, 0, none⟩)] w fun e w' => ∃ s, e = .returned (.tuple #[(.agg #[.int .i64 s.version, .int .i64 s.epoch, .int .i64 s.blocks, .int .i64 s.counters, .int .i64 s.log, .int .i64 s.head, .int .i64 s.applied]), .int .i64 D.loadE]) ∧ Hid (s = D.loadS) ∧ Fr F0 w w' := by
  refine (rload_c h hB).mono ?_
  rintro e w' ⟨rfl, hf⟩
  exact ⟨_, rfl, Lib.hid rfl, hf⟩
theorem rsave_n (h : RefAt w rb qb tb D) (s : Sup) : Calls Tryd.prog 33 #[.pointer (some ⟨rb, 0, none⟩), (.agg #[.int .i64 s.version, .int .i64 s.epoch, .int .i64 s.blocks, .int .i64 s.counters, .int .i64 s.log, .int .i64 s.head, .int .i64 s.applied])] w
    fun e w' => ∃ u, e = .returned (.tuple #[(.agg #[.int .i64 u.version, .int .i64 u.epoch, .int .i64 u.blocks, .int .i64 u.counters, .int .i64 u.log, .int .i64 u.head, .int .i64 u.applied]), .int .i64 (D.saveE s)]) ∧ Hid (u = D.saveS s) ∧ RefAt w' rb qb tb (D.save s) ∧ Fr (Rv rb qb tb) w w' := by
  refine (rsave_c h s).mono ?_
  rintro e w' ⟨rfl, h', hf⟩
  exact ⟨_, rfl, Lib.hid rfl, h', hf⟩
theorem size_act : (Tryd.prog.info? 62).map (·.size) = some 11 := by kernel_rfl
theorem und_act : ∃ d, Tryd.prog.underlying 62 = some d ∧ aggDesc d = true := ⟨_, Tryd.underlying62, rfl⟩
theorem Act1.size_ok (x : Act1) : (Tryd.prog.info? 62).map (·.size) = some x.cells.toArray.size := by rw [size_act]; rfl
theorem Act1.one_ok (x : Act1) : x.cells.toArray.all (·.oneCell') = true := by simp [Act1.cells, Value.oneCell']
theorem Act1.cells_load {W : World} {ob : Nat} {x : Act1} {t : TypeId} (h : W.heap[ob]? = some (.cells #[.int .i64 x.what, .int .i64 x.num, .int .i64 x.s.version, .int .i64 x.s.epoch, .int .i64 x.s.blocks, .int .i64 x.s.counters, .int .i64 x.s.log, .int .i64 x.s.head, .int .i64 x.s.applied, .slice x.bA x.bn x.bc, .slice x.kA x.kn x.kc] t (0, 0))) : ∀ k v, x.cells[k]? = some v → W.cell? ⟨ob, k, none⟩ = some v := by
  intro k v hv
  rw [cell_of h]
  simpa [Act1.cells] using hv

set_option maxRecDepth 100000 in
set_option maxHeartbeats 8000000 in
theorem plays8_walk (nn : Int) (A : Option Addr) (n c : Nat) (l : List Act1) (hL : ActsAt w A n l) (hn : n ≤ 9223372036854775807) :
    Calls Tryd.prog 8 #[.int .i64 nn, .slice A n c] w fun e w' => e = .returned (.bool true) ∧ Fr F0 w w' := by
  have hn0 : (0 : Int) ≤ (n : Int) := Int.natCast_nonneg _
  by_cases hbig : 40 < n
  · have hb : (40 : Int) < (n : Int) := by omega
    clear hbig
    go_enter Tryd.func8, Tryd.ntmps8
    go_wp2_with fail
    refine (awake_c _).mono ?_
    rintro e w1 ⟨rfl, hf1⟩
    go_wp2_with fail
    go_ret
    exact ⟨rfl, hf1⟩
  have hs40 : ¬ (40 : Int) < (n : Int) := by omega
  have HN : Hid (n ≤ 40) := Lib.hid (by omega)
  clear hbig
  obtain ⟨k, hk⟩ : ∃ k : Nat, nn % 4 = (k : Int) := ⟨(nn % 4).toNat, by omega⟩
  have hk4 : k < 4 := by omega
  have hband : bits BinOp.and IntKind.i64 nn 3 = (k : Int) := by rw [← hk]; exact i64_and nn 2 (by decide)
  have HLL := Lib.hid hL.len
  clear hk
  by_cases hk0 : k = 0
  · subst hk0
    go_enter Tryd.func8, Tryd.ntmps8
    go_wp2_with fail
    refine (awake_c _).mono ?_
    rintro e w1 ⟨rfl, hf1⟩
    go_wp2_with fail
    refine (new_no 0 (by decide) _).mono ?_
    rintro e w3 ⟨rfl, rfl⟩
    go_wp2_with fail
    refine (rnew_no 0 (by decide) _).mono ?_
    rintro e w4 ⟨rfl, rfl⟩
    go_wp2_with fail
    refine load_nil.mono ?_
    rintro e w5 ⟨rfl, hf5⟩
    have hfx : Fr F0 w (w5.alloc (.cells #[.int .i64 Sup.zero.version, .int .i64 Sup.zero.epoch, .int .i64 Sup.zero.blocks, .int .i64 Sup.zero.counters, .int .i64 Sup.zero.log, .int .i64 Sup.zero.head, .int .i64 Sup.zero.applied] 29)) := (hf1.then0 hf5).alloc _
    have HFX := Lib.hid hfx
    clear hfx
    go_wp2_with (refine wpList_store_fresh rfl 29 (.tmp 10) (.tmp 47) rfl #[.int .i64 Sup.zero.version, .int .i64 Sup.zero.epoch, .int .i64 Sup.zero.blocks, .int .i64 Sup.zero.counters, .int .i64 Sup.zero.log, .int .i64 Sup.zero.head, .int .i64 Sup.zero.applied] (by rfl) (by rfl) 29 #[.int .i64 0, .int .i64 0, .int .i64 0, .int .i64 0, .int .i64 0, .int .i64 0, .int .i64 0] (by rw [size_super]; rfl) rfl (by rfl) ?_)
    go_ret
    exact ⟨rfl, HFX.out⟩
  go_enter Tryd.func8, Tryd.ntmps8
  go_wp2_with fail
  refine (awake_c _).mono ?_
  rintro e w1 ⟨rfl, hf1⟩
  go_wp2_with fail
  refine (new_c k (by omega) (by omega) _).mono ?_
  rintro e w3 ⟨db, lb, mb, rfl, h3, m1, m2, m3, hf3⟩
  go_wp2_with fail
  refine (rnew_c k (by omega) (by omega) _).mono ?_
  rintro e w4 ⟨rb, qb, tb, rfl, h4, o1, o2, o3, hf4⟩
  have hlt3 := h3.lt
  have hlt4 := h4.lt
  have z1 := hf1.size
  have z3 := hf3.size
  have z4 := hf4.size
  have hapart : ∀ i, Dv db lb mb i → ¬ Rv rb qb tb i := by
    rintro i (h | h | h) (h' | h' | h') <;> omega
  go_wp2_with fail
  go_loopg [12] n (fun kq v wr => ∃ j : Nat, j ≤ n ∧ kq = n - j ∧ v = .int .i64 (j : Int) ∧ Both8 db lb mb rb qb tb w4 wr)
  case atStart => exact ⟨0, by omega, rfl, rfl, ⟨⟨_, h3.keep0 hf4, h4, SecBys.new k⟩, Fr.refl _ _⟩⟩
  case round =>
    obtain ⟨j, hj, rfl, rfl, ⟨D, hD, hR, hBY⟩, hfr⟩ := hrel
    have z5 := hfr.size
    have hf0 : Fr F0 w wr := ((hf1.then0 hf3).then0 hf4).trans hfr (by intro i hi; refine .inr ?_; rcases hi with (h' | h' | h') | (h' | h' | h') <;> omega)
    have hLr := hL.keep0 hf0
    by_cases hlt : j < n
    · have hj0 : (0 : Int) ≤ (j : Int) := Int.natCast_nonneg _
      have hj1 : (j : Int) < (n : Int) := by omega
      obtain ⟨b, off, x, rfl, hx, hok, hcs⟩ := hLr.get hlt
      have hok0 := hL.ok x (List.mem_of_getElem? hx)
      have HX := Lib.hid hx
      have HCS : Hid (∀ k v, x.cells[k]? = some v → wr.cell? ⟨b, off + j * 11 + k, none⟩ = some v) := Lib.hid hcs
      have hob : (wr.alloc (.cells #[.int .i64 x.what, .int .i64 x.num, .int .i64 x.s.version, .int .i64 x.s.epoch, .int .i64 x.s.blocks, .int .i64 x.s.counters, .int .i64 x.s.log, .int .i64 x.s.head, .int .i64 x.s.applied, .slice x.bA x.bn x.bc, .slice x.kA x.kn x.kc] 62)).heap[wr.heap.size]? = some (.cells #[.int .i64 x.what, .int .i64 x.num, .int .i64 x.s.version, .int .i64 x.s.epoch, .int .i64 x.s.blocks, .int .i64 x.s.counters, .int .i64 x.s.log, .int .i64 x.s.head, .int .i64 x.s.applied, .slice x.bA x.bn x.bc, .slice x.kA x.kn x.kc] 62 (0, 0)) := alloc_at rfl _
      have HOB0 := Lib.hid hob
      have hfW : Fr F0 wr (wr.alloc (.cells #[.int .i64 x.what, .int .i64 x.num, .int .i64 x.s.version, .int .i64 x.s.epoch, .int .i64 x.s.blocks, .int .i64 x.s.counters, .int .i64 x.s.log, .int .i64 x.s.head, .int .i64 x.s.applied, .slice x.bA x.bn x.bc, .slice x.kA x.kn x.kc] 62)) := (Fr.refl _ _).alloc _
      have HFW := Lib.hid hfW
      obtain ⟨d, hu, hd⟩ := und_act
      have HU := Lib.hid hu
      have HDD := Lib.hid hd
      have HOK := Lib.hid hok
      have HOK0 := Lib.hid hok0
      have HBY := Lib.hid hBY
      have HD := Lib.hid hD
      have HR := Lib.hid hR
      have HFR := Lib.hid hfr
      have HF0 := Lib.hid hf0
      have HAP := Lib.hid hapart
      have hltR := hR.lt
      have hltD := hD.lt
      have b0 : (0 : Int) ≤ (x.bn : Int) := Int.natCast_nonneg _
      have k0 : (0 : Int) ≤ (x.kn : Int) := Int.natCast_nonneg _
      have b9 : (x.bn : Int) ≤ 9223372036854775807 := by have := hok.bm; omega
      have k9 : (x.kn : Int) ≤ 9223372036854775807 := by have := hok.km; omega
      clear hx hcs hob hfW hu hd hok hok0 hBY hD hR hfr hf0 hapart hLr hf1 hf3 hf4 h3 h4
      by_cases hb1 : 100 < x.bn
      · have hb1' : (100 : Int) < (x.bn : Int) := by omega
        go_wp2_with (first | (refine wpList_load_at rfl 62 (.tmp 62) rfl b (off + j * 11) (by rfl) x.cells d HCS.out HU.out HDD.out size_act ?_) | (refine wpList_store_fresh rfl 62 (.tmp 13) (.tmp 63) rfl x.cells.toArray (by rfl) (by rfl) 62 #[.int .i64 0, .int .i64 0, .int .i64 0, .int .i64 0, .int .i64 0, .int .i64 0, .int .i64 0, .int .i64 0, .int .i64 0, .slice none 0 0, .slice none 0 0] x.size_ok rfl x.one_ok ?_; simp only [Act1.cells, List.toArray]))
        go_ret
        exact ⟨rfl, HF0.out.then0 HFW.out⟩
      have hb1' : ¬ (100 : Int) < (x.bn : Int) := by omega
      by_cases hk1 : 20 < x.kn
      · have hk1' : (20 : Int) < (x.kn : Int) := by omega
        go_wp2_with (first | (refine wpList_load_at rfl 62 (.tmp 62) rfl b (off + j * 11) (by rfl) x.cells d HCS.out HU.out HDD.out size_act ?_) | (refine wpList_store_fresh rfl 62 (.tmp 13) (.tmp 63) rfl x.cells.toArray (by rfl) (by rfl) 62 #[.int .i64 0, .int .i64 0, .int .i64 0, .int .i64 0, .int .i64 0, .int .i64 0, .int .i64 0, .int .i64 0, .int .i64 0, .slice none 0 0, .slice none 0 0] x.size_ok rfl x.one_ok ?_; simp only [Act1.cells, List.toArray]))
        go_ret
        exact ⟨rfl, HF0.out.then0 HFW.out⟩
      have hk1' : ¬ (20 : Int) < (x.kn : Int) := by omega
      go_upto_block 2 with (first | (refine wpList_load_at rfl 62 (.tmp 62) rfl b (off + j * 11) (by rfl) x.cells d HCS.out HU.out HDD.out size_act ?_) | (refine wpList_store_fresh rfl 62 (.tmp 13) (.tmp 63) rfl x.cells.toArray (by rfl) (by rfl) 62 #[.int .i64 0, .int .i64 0, .int .i64 0, .int .i64 0, .int .i64 0, .int .i64 0, .int .i64 0, .int .i64 0, .int .i64 0, .slice none 0 0, .slice none 0 0] x.size_ok rfl x.one_ok ?_; simp only [Act1.cells, List.toArray]))
      obtain ⟨ob, hobe⟩ : ∃ ob, ob = wr.heap.size := ⟨_, rfl⟩
      rw [← hobe] at HOB0
      simp only [← hobe]
      generalize (wr.alloc (.cells #[.int .i64 x.what, .int .i64 x.num, .int .i64 x.s.version, .int .i64 x.s.epoch, .int .i64 x.s.blocks, .int .i64 x.s.counters, .int .i64 x.s.log, .int .i64 x.s.head, .int .i64 x.s.applied, .slice x.bA x.bn x.bc, .slice x.kA x.kn x.kc] 62)) = W at *
      clear HCS d HU HDD
      go_cut [14, 15, 16, 17] from 77 to 145 (fun v14 v15 v16 v17 wc => Both8 db lb mb rb qb tb W wc)
      case first =>
        have HOB := HOB0
        have HNS : Hid (¬ (Dv db lb mb ob ∨ Rv rb qb tb ob)) := Lib.hid (by rintro ((h' | h' | h') | (h' | h' | h')) <;> omega)
        have HDW := Lib.hid (HD.out.keep0 HFW.out)
        have HRW := Lib.hid (HR.out.keep0 HFW.out)
        have HJ0 : Hid (DevAt Tryd.prog 3 W db lb mb D ∧ RefAt W rb qb tb D) := Lib.hid ⟨HDW.out, HRW.out⟩
        have HB : Hid (BytesAt W x.bA x.bn x.b) := Lib.hid (HOK.out.b.keep0 HFW.out)
        have HBN : Hid (0 < x.bn → ∀ ad, x.bA = some ad → ¬ (Dv db lb mb ad.block ∨ Rv rb qb tb ad.block)) := Lib.hid (by
          intro hp ad e
          have hb0 := HOK0.out.b
          rw [e] at hb0
          have := hb0.lt hp
          rintro ((h' | h' | h') | (h' | h' | h')) <;> omega)
        have hKK : ValsAt W x.kA (x.keep.map Value.bool) := HOK.out.k.keep0 HFW.out
        have HKN : Hid (∀ ad, x.kA = some ad → 0 < x.keep.length → ¬ (Dv db lb mb ad.block ∨ Rv rb qb tb ad.block)) := Lib.hid (by
          intro ad e hp
          obtain ⟨ad', e', hc⟩ := HOK0.out.k.cells (by simpa using hp)
          rw [e] at e'
          cases e'
          obtain ⟨v0, h0⟩ : ∃ v0, (x.keep.map Value.bool)[0]? = some v0 := ⟨_, List.getElem?_eq_getElem (by simpa using hp)⟩
          have h1 := hc 0 _ h0
          have := World.block_lt_of_cell? w _ h1
          have hb : (ad.add 0).block = ad.block := by unfold Addr.add; split <;> rfl
          rw [hb] at this
          rintro ((h' | h' | h') | (h' | h' | h')) <;> omega)
        obtain ⟨ds, hus, hds⟩ := und_rsuper
        have HUS := Lib.hid hus
        have HDS := Lib.hid hds
        have HSC : Hid (∀ W' : World, W'.heap[ob]? = some (.cells #[.int .i64 x.what, .int .i64 x.num, .int .i64 x.s.version, .int .i64 x.s.epoch, .int .i64 x.s.blocks, .int .i64 x.s.counters, .int .i64 x.s.log, .int .i64 x.s.head, .int .i64 x.s.applied, .slice x.bA x.bn x.bc, .slice x.kA x.kn x.kc] 62 (0, 0)) → ∀ i v, x.s.cells[i]? = some v → W'.cell? ⟨ob, 2 + i, none⟩ = some v) := Lib.hid (by
          intro W' hW' i v hv
          refine Act1.cells_load hW' (2 + i) v ?_
          have hi : i < 7 := (List.getElem?_eq_some_iff.1 hv).1
          have : i = 0 ∨ i = 1 ∨ i = 2 ∨ i = 3 ∨ i = 4 ∨ i = 5 ∨ i = 6 := by omega
          rcases this with rfl | rfl | rfl | rfl | rfl | rfl | rfl <;> exact hv)
        have hzW : W.heap.size = W.heap.size := rfl
        have hobW : ob < W.heap.size := lt_of_block HOB.out
        have hltW := HRW.out.lt
        have hltV := HDW.out.lt
        clear hus hds hobe hzW
        by_cases w0 : x.what = 0
        · have v0 : (x.what == 0) = true := by simp [w0]
          clear w0
          go_wp2_with (refine wpList_load_at rfl 23 (.tmp 82) rfl ob 2 (by rfl) x.s.cells ds (HSC.out _ HOB.out) HUS.out HDS.out size_rsuper ?_)
          refine (ours_c x.s).mono ?_
          rintro e w5 ⟨rfl, hf5⟩
          have HDW := Lib.hid (HDW.out.keep0 hf5)
          have HRW := Lib.hid (HRW.out.keep0 hf5)
          have HOB := Lib.hid (hf5.keep0 HOB.out)
          have HF9 : Hid (Fr (fun i => Dv db lb mb i ∨ Rv rb qb tb i) W w5) := Lib.hid hf5.of0
          have zw5 := hf5.size
          clear hf5
          go_wp2_with fail
          refine (save_n HDW.out x.s).mono ?_
          rintro e w6 ⟨u, rfl, HUU, hd6, hf6⟩
          have hf6' : Fr (Dv db lb mb) w5 (w6.alloc (.cells #[.int .i64 u.version, .int .i64 u.epoch, .int .i64 u.blocks, .int .i64 u.counters, .int .i64 u.log, .int .i64 u.head, .int .i64 u.applied] 29)) := hf6.alloc _
          have HDW : Hid (DevAt Tryd.prog 3 (w6.alloc (.cells #[.int .i64 u.version, .int .i64 u.epoch, .int .i64 u.blocks, .int .i64 u.counters, .int .i64 u.log, .int .i64 u.head, .int .i64 u.applied] 29)) db lb mb (D.save x.s)) := Lib.hid (hd6.keep0 ((Fr.refl _ _).alloc _))
          have HRW := Lib.hid (HRW.out.keep hf6' (fun h => HAP.out _ h (.inl rfl)) (fun h => HAP.out _ h (.inr (.inl rfl))) (fun h => HAP.out _ h (.inr (.inr rfl))))
          have HOB := Lib.hid (hf6'.keep HOB.out (fun h => HNS.out (.inl h)))
          have HF9 := Lib.hid (HF9.out.trans (hf6'.mono (fun _ h => .inl h)) (fun _ h => .inl h))
          have CA : Hid ((w6.alloc (.cells #[.int .i64 u.version, .int .i64 u.epoch, .int .i64 u.blocks, .int .i64 u.counters, .int .i64 u.log, .int .i64 u.head, .int .i64 u.applied] 29)).heap[w6.heap.size]? = some (.cells u.cells.toArray 29 (0, 0))) := Lib.hid (alloc_at rfl _)
          have zw6 := hf6.size
          obtain ⟨eE, heE⟩ : ∃ eE, eE = D.saveE x.s := ⟨_, rfl⟩
          rw [← heE]
          have HEE := Lib.hid heE
          clear hf6 hf6' hd6 heE
          go_wp2_with (first | (refine wpList_store_fresh rfl 29 (.tmp 14) (.tmp 86) rfl #[.int .i64 u.version, .int .i64 u.epoch, .int .i64 u.blocks, .int .i64 u.counters, .int .i64 u.log, .int .i64 u.head, .int .i64 u.applied] (by rfl) (by rfl) 29 #[.int .i64 0, .int .i64 0, .int .i64 0, .int .i64 0, .int .i64 0, .int .i64 0, .int .i64 0] (by rw [size_super]; rfl) rfl (by rfl) ?_) | (refine wpList_load_at rfl 23 (.tmp 90) rfl ob 2 (by rfl) x.s.cells ds (HSC.out _ HOB.out) HUS.out HDS.out size_rsuper ?_))
          refine (rsave_n HRW.out x.s).mono ?_
          rintro e w7 ⟨u2, rfl, HUU2, hr7, hf7⟩
          obtain rfl : u2 = u := by rw [HUU2.out, HUU.out]
          rw [← HEE.out]
          obtain ⟨pA, hpA⟩ : ∃ p, p = w6.heap.size := ⟨_, rfl⟩
          rw [← hpA] at CA ⊢
          have hnA : ¬ Rv rb qb tb pA := by rintro (h' | h' | h') <;> omega
          have hf7' : Fr (Rv rb qb tb) (w6.alloc (.cells #[.int .i64 u2.version, .int .i64 u2.epoch, .int .i64 u2.blocks, .int .i64 u2.counters, .int .i64 u2.log, .int .i64 u2.head, .int .i64 u2.applied] 29)) (w7.alloc (.cells #[.int .i64 u2.version, .int .i64 u2.epoch, .int .i64 u2.blocks, .int .i64 u2.counters, .int .i64 u2.log, .int .i64 u2.head, .int .i64 u2.applied] 23)) := hf7.alloc _
          have HR9 : Hid (RefAt (w7.alloc (.cells #[.int .i64 u2.version, .int .i64 u2.epoch, .int .i64 u2.blocks, .int .i64 u2.counters, .int .i64 u2.log, .int .i64 u2.head, .int .i64 u2.applied] 23)) rb qb tb (D.save x.s)) := Lib.hid (hr7.keep0 ((Fr.refl _ _).alloc _))
          have HD9 := Lib.hid (HDW.out.keep hf7' (fun h => HAP.out _ (.inl rfl) h) (fun h => HAP.out _ (.inr (.inl rfl)) h) (fun h => HAP.out _ (.inr (.inr rfl)) h))
          have CA := Lib.hid (hf7'.keep CA.out hnA)
          have CB : Hid ((w7.alloc (.cells #[.int .i64 u2.version, .int .i64 u2.epoch, .int .i64 u2.blocks, .int .i64 u2.counters, .int .i64 u2.log, .int .i64 u2.head, .int .i64 u2.applied] 23)).heap[w7.heap.size]? = some (.cells u2.cells.toArray 23 (0, 0))) := Lib.hid (alloc_at rfl _)
          have HF9 := Lib.hid (HF9.out.trans (hf7'.mono (fun _ h => .inr h)) (fun _ h => .inl h))
          clear hf7 hf7' hr7 hpA hnA
          obtain ⟨pB, hpB⟩ : ∃ p, p = w7.heap.size := ⟨_, rfl⟩
          rw [← hpB] at CB
          go_upto_region 22 with (refine wpList_store_fresh rfl 23 (.tmp 16) (.tmp 93) rfl #[.int .i64 u2.version, .int .i64 u2.epoch, .int .i64 u2.blocks, .int .i64 u2.counters, .int .i64 u2.log, .int .i64 u2.head, .int .i64 u2.applied] (by rfl) (by rfl) 23 #[.int .i64 0, .int .i64 0, .int .i64 0, .int .i64 0, .int .i64 0, .int .i64 0, .int .i64 0] (by rw [size_rsuper]; rfl) rfl (by rfl) ?_)
          simp only [← hpB]
          clear hpB
          refine wp_region_free (S := F0) [false, false, false, false, false, false, false, false, false, false, false, false, false, false, false, false, false, false, false, false, false, false, false, false, false, false, false, false, false, false, false, false, false, false, false, false, false, false, false, false, false, false, false, false, false, false, false, false, false, false, false, false, false, false, false, false, false, false, false, false, false, false, false, false, false, false, false, false, false, false, false, false, false, false, false, false, false, false, false, false, false, false, false, false, false, false, false, false, false, false, false, false, false, false, false, true, true, true, true, true, true, true, true, true, false, false, false, false, false, false, false, false, false, false, false, false, false, false, false, false, false, false, false, false, false, false, false, false, false, false, false, false, false, false, false, false, false, false, false, false, false, false, false, false, false, false, false, false, false, false, false, false, false, false, false, false, false, false, false, false, false, false, false, false, false, false] [.eq (.agg #[.int .i64 u2.version, .int .i64 u2.epoch, .int .i64 u2.blocks, .int .i64 u2.counters, .int .i64 u2.log, .int .i64 u2.head, .int .i64 u2.applied]), .eq (.agg #[.int .i64 u2.version, .int .i64 u2.epoch, .int .i64 u2.blocks, .int .i64 u2.counters, .int .i64 u2.log, .int .i64 u2.head, .int .i64 u2.applied]), .eq (.agg #[.int .i64 u2.version, .int .i64 u2.epoch, .int .i64 u2.blocks, .int .i64 u2.counters, .int .i64 u2.log, .int .i64 u2.head, .int .i64 u2.applied]), .eq (.bool false), .eq (.bool false), .eq (.int .i64 eE), .eq (.int .i64 eE), .eq (.bool false), .eq (.bool false)] (by kernel_rfl) (by kernel_rfl) (by rfl) (fun us => ?steps) (fun us wz hG hall => ?fin)
          case steps =>
            simp only [fillL, Nat.reduceAdd]
            refine stepsHold.cons (fun wx hG hd K hK => ?_) ?_
            · rw [if_pos (wanted_none rfl)]
              obtain ⟨q0, q1, q2, q3, q4, q5, q6⟩ := sup_cells (s := u2) (hG.keep0 CA.out)
              refine wp_value (w2 := wx) (v := .agg #[.int .i64 u2.version, .int .i64 u2.epoch, .int .i64 u2.blocks, .int .i64 u2.counters, .int .i64 u2.log, .int .i64 u2.head, .int .i64 u2.applied]) ?_ (hK _ _ rfl (Fr.refl _ _))
              clear hd hK
              go_simp
            refine stepsHold.cons (fun wx hG hd K hK => ?_) ?_
            · have h95 : us 95 = (.agg #[.int .i64 u2.version, .int .i64 u2.epoch, .int .i64 u2.blocks, .int .i64 u2.counters, .int .i64 u2.log, .int .i64 u2.head, .int .i64 u2.applied]) := deps_get hd 0 rfl rfl rfl rfl rfl
              rw [if_pos (wanted_none rfl)]
              refine wp_call (w2 := wx) (f := 31) (args := #[.agg #[.int .i64 u2.version, .int .i64 u2.epoch, .int .i64 u2.blocks, .int .i64 u2.counters, .int .i64 u2.log, .int .i64 u2.head, .int .i64 u2.applied]]) ?_ ?_
              · clear hd hK
                go_simp
              · refine (theirs_c u2).mono ?_
                rintro e w9 ⟨rfl, hf9⟩
                exact ⟨_, rfl, hK _ _ rfl hf9⟩
            refine stepsHold.cons (fun wx hG hd K hK => ?_) ?_
            · rw [if_pos (wanted_none rfl)]
              obtain ⟨q0, q1, q2, q3, q4, q5, q6⟩ := sup_cells (s := u2) (hG.keep0 CB.out)
              refine wp_value (w2 := wx) (v := .agg #[.int .i64 u2.version, .int .i64 u2.epoch, .int .i64 u2.blocks, .int .i64 u2.counters, .int .i64 u2.log, .int .i64 u2.head, .int .i64 u2.applied]) ?_ (hK _ _ rfl (Fr.refl _ _))
              clear hd hK
              go_simp
            refine stepsHold.cons (fun wx hG hd K hK => ?_) ?_
            · have h96 : us 96 = (.agg #[.int .i64 u2.version, .int .i64 u2.epoch, .int .i64 u2.blocks, .int .i64 u2.counters, .int .i64 u2.log, .int .i64 u2.head, .int .i64 u2.applied]) := deps_get hd 0 rfl rfl rfl rfl rfl
              have h97 : us 97 = (.agg #[.int .i64 u2.version, .int .i64 u2.epoch, .int .i64 u2.blocks, .int .i64 u2.counters, .int .i64 u2.log, .int .i64 u2.head, .int .i64 u2.applied]) := deps_get hd 1 rfl rfl rfl rfl rfl
              rw [if_pos (wanted_none rfl)]
              refine wp_value (w2 := wx) (v := .bool false) ?_ (hK _ _ rfl (Fr.refl _ _))
              clear hd hG hK
              go_simp
            refine stepsHold.cons (fun wx hG hd K hK => ?_) ?_
            · have h98 : us 98 = (.bool false) := deps_get hd 0 rfl rfl rfl rfl rfl
              rw [if_pos (wanted_none rfl)]
              refine wp_value (w2 := wx) (v := .bool false) ?_ (hK _ _ rfl (Fr.refl _ _))
              clear hd hG hK
              go_simp
            refine stepsHold.cons (fun wx hG hd K hK => ?_) ?_
            · have h99 : us 99 = (.bool false) := deps_get hd 0 rfl rfl rfl rfl rfl
              rw [if_pos (wanted_yes rfl rfl rfl rfl h99)]
              refine wp_value (w2 := wx) (v := .int .i64 eE) ?_ (hK _ _ rfl (Fr.refl _ _))
              clear hd hG hK
              go_simp
            refine stepsHold.cons (fun wx hG hd K hK => ?_) ?_
            · have h99 : us 99 = (.bool false) := deps_get hd 0 rfl rfl rfl rfl rfl
              rw [if_pos (wanted_yes rfl rfl rfl rfl h99)]
              refine wp_value (w2 := wx) (v := .int .i64 eE) ?_ (hK _ _ rfl (Fr.refl _ _))
              clear hd hG hK
              go_simp
            refine stepsHold.cons (fun wx hG hd K hK => ?_) ?_
            · have h100 : us 100 = (.int .i64 eE) := deps_get hd 0 rfl rfl rfl rfl rfl
              have h101 : us 101 = (.int .i64 eE) := deps_get hd 1 rfl rfl rfl rfl rfl
              have h99 : us 99 = (.bool false) := deps_get hd 2 rfl rfl rfl rfl rfl
              rw [if_pos (wanted_yes rfl rfl rfl rfl h99)]
              refine wp_value (w2 := wx) (v := .bool false) ?_ (hK _ _ rfl (Fr.refl _ _))
              clear hd hG hK
              go_simp
            refine stepsHold.cons (fun wx hG hd K hK => ?_) ?_
            · have h99 : us 99 = (.bool false) := deps_get hd 0 rfl rfl rfl rfl rfl
              have h102 : us 102 = (.bool false) := deps_get hd 1 rfl rfl rfl rfl rfl
              rw [if_pos (wanted_none rfl)]
              refine wp_value (w2 := wx) (v := .bool false) ?_ (hK _ _ rfl (Fr.refl _ _))
              clear hd hG hK
              go_simp
            exact stepsHold.nil
          case fin =>
            have h95 : us 95 = (.agg #[.int .i64 u2.version, .int .i64 u2.epoch, .int .i64 u2.blocks, .int .i64 u2.counters, .int .i64 u2.log, .int .i64 u2.head, .int .i64 u2.applied]) := all_get hall 0 rfl rfl rfl
            have h96 : us 96 = (.agg #[.int .i64 u2.version, .int .i64 u2.epoch, .int .i64 u2.blocks, .int .i64 u2.counters, .int .i64 u2.log, .int .i64 u2.head, .int .i64 u2.applied]) := all_get hall 1 rfl rfl rfl
            have h97 : us 97 = (.agg #[.int .i64 u2.version, .int .i64 u2.epoch, .int .i64 u2.blocks, .int .i64 u2.counters, .int .i64 u2.log, .int .i64 u2.head, .int .i64 u2.applied]) := all_get hall 2 rfl rfl rfl
            have h98 : us 98 = (.bool false) := all_get hall 3 rfl rfl rfl
            have h99 : us 99 = (.bool false) := all_get hall 4 rfl rfl rfl
            have h100 : us 100 = (.int .i64 eE) := all_get hall 5 rfl rfl rfl
            have h101 : us 101 = (.int .i64 eE) := all_get hall 6 rfl rfl rfl
            have h102 : us 102 = (.bool false) := all_get hall 7 rfl rfl rfl
            have h103 : us 103 = (.bool false) := all_get hall 8 rfl rfl rfl
            simp only [fillL, Nat.reduceAdd]
            clear hall
            simp only [h95, h96, h97, h98, h99, h100, h101, h102, h103]
            clear h95 h96 h97 h98 h99 h100 h101 h102 h103
            go_wp2_with fail
            go_meet
            exact ⟨⟨_, HD9.out.keep0 hG, HR9.out.keep0 hG, HBY.out.save _ (Sup.enc_bys _)⟩, HF9.out.then0 hG⟩
        have v0 : (x.what == 0) = false := by simp [w0]
        by_cases w1 : x.what = 1
        · have v1 : (x.what == 1) = true := by simp [w1]
          clear w0 w1
          go_wp2_with (refine wpList_load_at rfl 23 (.tmp 82) rfl ob 2 (by rfl) x.s.cells ds (HSC.out _ HOB.out) HUS.out HDS.out size_rsuper ?_)
          refine (ours_c x.s).mono ?_
          rintro e w5 ⟨rfl, hf5⟩
          have HDW := Lib.hid (HDW.out.keep0 hf5)
          have HRW := Lib.hid (HRW.out.keep0 hf5)
          have HOB := Lib.hid (hf5.keep0 HOB.out)
          have HF9 : Hid (Fr (fun i => Dv db lb mb i ∨ Rv rb qb tb i) W w5) := Lib.hid hf5.of0
          have zw5 := hf5.size
          clear hf5
          go_wp2_with fail
          refine (save_n HDW.out x.s).mono ?_
          rintro e w6 ⟨u, rfl, HUU, hd6, hf6⟩
          have hf6' : Fr (Dv db lb mb) w5 (w6.alloc (.cells #[.int .i64 u.version, .int .i64 u.epoch, .int .i64 u.blocks, .int .i64 u.counters, .int .i64 u.log, .int .i64 u.head, .int .i64 u.applied] 29)) := hf6.alloc _
          have HDW : Hid (DevAt Tryd.prog 3 (w6.alloc (.cells #[.int .i64 u.version, .int .i64 u.epoch, .int .i64 u.blocks, .int .i64 u.counters, .int .i64 u.log, .int .i64 u.head, .int .i64 u.applied] 29)) db lb mb (D.save x.s)) := Lib.hid (hd6.keep0 ((Fr.refl _ _).alloc _))
          have HRW := Lib.hid (HRW.out.keep hf6' (fun h => HAP.out _ h (.inl rfl)) (fun h => HAP.out _ h (.inr (.inl rfl))) (fun h => HAP.out _ h (.inr (.inr rfl))))
          have HOB := Lib.hid (hf6'.keep HOB.out (fun h => HNS.out (.inl h)))
          have HF9 := Lib.hid (HF9.out.trans (hf6'.mono (fun _ h => .inl h)) (fun _ h => .inl h))
          have CA : Hid ((w6.alloc (.cells #[.int .i64 u.version, .int .i64 u.epoch, .int .i64 u.blocks, .int .i64 u.counters, .int .i64 u.log, .int .i64 u.head, .int .i64 u.applied] 29)).heap[w6.heap.size]? = some (.cells u.cells.toArray 29 (0, 0))) := Lib.hid (alloc_at rfl _)
          have zw6 := hf6.size
          obtain ⟨eE, heE⟩ : ∃ eE, eE = D.saveE x.s := ⟨_, rfl⟩
          rw [← heE]
          have HEE := Lib.hid heE
          clear hf6 hf6' hd6 heE
          go_wp2_with (first | (refine wpList_store_fresh rfl 29 (.tmp 14) (.tmp 86) rfl #[.int .i64 u.version, .int .i64 u.epoch, .int .i64 u.blocks, .int .i64 u.counters, .int .i64 u.log, .int .i64 u.head, .int .i64 u.applied] (by rfl) (by rfl) 29 #[.int .i64 0, .int .i64 0, .int .i64 0, .int .i64 0, .int .i64 0, .int .i64 0, .int .i64 0] (by rw [size_super]; rfl) rfl (by rfl) ?_) | (refine wpList_load_at rfl 23 (.tmp 90) rfl ob 2 (by rfl) x.s.cells ds (HSC.out _ HOB.out) HUS.out HDS.out size_rsuper ?_))
          refine (rsave_n HRW.out x.s).mono ?_
          rintro e w7 ⟨u2, rfl, HUU2, hr7, hf7⟩
          obtain rfl : u2 = u := by rw [HUU2.out, HUU.out]
          rw [← HEE.out]
          obtain ⟨pA, hpA⟩ : ∃ p, p = w6.heap.size := ⟨_, rfl⟩
          rw [← hpA] at CA ⊢
          have hnA : ¬ Rv rb qb tb pA := by rintro (h' | h' | h') <;> omega
          have hf7' : Fr (Rv rb qb tb) (w6.alloc (.cells #[.int .i64 u2.version, .int .i64 u2.epoch, .int .i64 u2.blocks, .int .i64 u2.counters, .int .i64 u2.log, .int .i64 u2.head, .int .i64 u2.applied] 29)) (w7.alloc (.cells #[.int .i64 u2.version, .int .i64 u2.epoch, .int .i64 u2.blocks, .int .i64 u2.counters, .int .i64 u2.log, .int .i64 u2.head, .int .i64 u2.applied] 23)) := hf7.alloc _
          have HR9 : Hid (RefAt (w7.alloc (.cells #[.int .i64 u2.version, .int .i64 u2.epoch, .int .i64 u2.blocks, .int .i64 u2.counters, .int .i64 u2.log, .int .i64 u2.head, .int .i64 u2.applied] 23)) rb qb tb (D.save x.s)) := Lib.hid (hr7.keep0 ((Fr.refl _ _).alloc _))
          have HD9 := Lib.hid (HDW.out.keep hf7' (fun h => HAP.out _ (.inl rfl) h) (fun h => HAP.out _ (.inr (.inl rfl)) h) (fun h => HAP.out _ (.inr (.inr rfl)) h))
          have CA := Lib.hid (hf7'.keep CA.out hnA)
          have CB : Hid ((w7.alloc (.cells #[.int .i64 u2.version, .int .i64 u2.epoch, .int .i64 u2.blocks, .int .i64 u2.counters, .int .i64 u2.log, .int .i64 u2.head, .int .i64 u2.applied] 23)).heap[w7.heap.size]? = some (.cells u2.cells.toArray 23 (0, 0))) := Lib.hid (alloc_at rfl _)
          have HF9 := Lib.hid (HF9.out.trans (hf7'.mono (fun _ h => .inr h)) (fun _ h => .inl h))
          clear hf7 hf7' hr7 hpA hnA
          obtain ⟨pB, hpB⟩ : ∃ p, p = w7.heap.size := ⟨_, rfl⟩
          rw [← hpB] at CB
          go_upto_region 22 with (refine wpList_store_fresh rfl 23 (.tmp 16) (.tmp 93) rfl #[.int .i64 u2.version, .int .i64 u2.epoch, .int .i64 u2.blocks, .int .i64 u2.counters, .int .i64 u2.log, .int .i64 u2.head, .int .i64 u2.applied] (by rfl) (by rfl) 23 #[.int .i64 0, .int .i64 0, .int .i64 0, .int .i64 0, .int .i64 0, .int .i64 0, .int .i64 0] (by rw [size_rsuper]; rfl) rfl (by rfl) ?_)
          simp only [← hpB]
          clear hpB
          refine wp_region_free (S := F0) [false, false, false, false, false, false, false, false, false, false, false, false, false, false, false, false, false, false, false, false, false, false, false, false, false, false, false, false, false, false, false, false, false, false, false, false, false, false, false, false, false, false, false, false, false, false, false, false, false, false, false, false, false, false, false, false, false, false, false, false, false, false, false, false, false, false, false, false, false, false, false, false, false, false, false, false, false, false, false, false, false, false, false, false, false, false, false, false, false, false, false, false, false, false, false, true, true, true, true, true, true, true, true, true, false, false, false, false, false, false, false, false, false, false, false, false, false, false, false, false, false, false, false, false, false, false, false, false, false, false, false, false, false, false, false, false, false, false, false, false, false, false, false, false, false, false, false, false, false, false, false, false, false, false, false, false, false, false, false, false, false, false, false, false, false, false] [.eq (.agg #[.int .i64 u2.version, .int .i64 u2.epoch, .int .i64 u2.blocks, .int .i64 u2.counters, .int .i64 u2.log, .int .i64 u2.head, .int .i64 u2.applied]), .eq (.agg #[.int .i64 u2.version, .int .i64 u2.epoch, .int .i64 u2.blocks, .int .i64 u2.counters, .int .i64 u2.log, .int .i64 u2.head, .int .i64 u2.applied]), .eq (.agg #[.int .i64 u2.version, .int .i64 u2.epoch, .int .i64 u2.blocks, .int .i64 u2.counters, .int .i64 u2.log, .int .i64 u2.head, .int .i64 u2.applied]), .eq (.bool false), .eq (.bool false), .eq (.int .i64 eE), .eq (.int .i64 eE), .eq (.bool false), .eq (.bool false)] (by kernel_rfl) (by kernel_rfl) (by rfl) (fun us => ?steps) (fun us wz hG hall => ?fin)
          case steps =>
            simp only [fillL, Nat.reduceAdd]
            refine stepsHold.cons (fun wx hG hd K hK => ?_) ?_
            · rw [if_pos (wanted_none rfl)]
              obtain ⟨q0, q1, q2, q3, q4, q5, q6⟩ := sup_cells (s := u2) (hG.keep0 CA.out)
              refine wp_value (w2 := wx) (v := .agg #[.int .i64 u2.version, .int .i64 u2.epoch, .int .i64 u2.blocks, .int .i64 u2.counters, .int .i64 u2.log, .int .i64 u2.head, .int .i64 u2.applied]) ?_ (hK _ _ rfl (Fr.refl _ _))
              clear hd hK
              go_simp
            refine stepsHold.cons (fun wx hG hd K hK => ?_) ?_
            · have h95 : us 95 = (.agg #[.int .i64 u2.version, .int .i64 u2.epoch, .int .i64 u2.blocks, .int .i64 u2.counters, .int .i64 u2.log, .int .i64 u2.head, .int .i64 u2.applied]) := deps_get hd 0 rfl rfl rfl rfl rfl
              rw [if_pos (wanted_none rfl)]
              refine wp_call (w2 := wx) (f := 31) (args := #[.agg #[.int .i64 u2.version, .int .i64 u2.epoch, .int .i64 u2.blocks, .int .i64 u2.counters, .int .i64 u2.log, .int .i64 u2.head, .int .i64 u2.applied]]) ?_ ?_
              · clear hd hK
                go_simp
              · refine (theirs_c u2).mono ?_
                rintro e w9 ⟨rfl, hf9⟩
                exact ⟨_, rfl, hK _ _ rfl hf9⟩
            refine stepsHold.cons (fun wx hG hd K hK => ?_) ?_
            · rw [if_pos (wanted_none rfl)]
              obtain ⟨q0, q1, q2, q3, q4, q5, q6⟩ := sup_cells (s := u2) (hG.keep0 CB.out)
              refine wp_value (w2 := wx) (v := .agg #[.int .i64 u2.version, .int .i64 u2.epoch, .int .i64 u2.blocks, .int .i64 u2.counters, .int .i64 u2.log, .int .i64 u2.head, .int .i64 u2.applied]) ?_ (hK _ _ rfl (Fr.refl _ _))
              clear hd hK
              go_simp
            refine stepsHold.cons (fun wx hG hd K hK => ?_) ?_
            · have h96 : us 96 = (.agg #[.int .i64 u2.version, .int .i64 u2.epoch, .int .i64 u2.blocks, .int .i64 u2.counters, .int .i64 u2.log, .int .i64 u2.head, .int .i64 u2.applied]) := deps_get hd 0 rfl rfl rfl rfl rfl
              have h97 : us 97 = (.agg #[.int .i64 u2.version, .int .i64 u2.epoch, .int .i64 u2.blocks, .int .i64 u2.counters, .int .i64 u2.log, .int .i64 u2.head, .int .i64 u2.applied]) := deps_get hd 1 rfl rfl rfl rfl rfl
              rw [if_pos (wanted_none rfl)]
              refine wp_value (w2 := wx) (v := .bool false) ?_ (hK _ _ rfl (Fr.refl _ _))
              clear hd hG hK
              go_simp
            refine stepsHold.cons (fun wx hG hd K hK => ?_) ?_
            · have h98 : us 98 = (.bool false) := deps_get hd 0 rfl rfl rfl rfl rfl
              rw [if_pos (wanted_none rfl)]
              refine wp_value (w2 := wx) (v := .bool false) ?_ (hK _ _ rfl (Fr.refl _ _))
              clear hd hG hK
              go_simp
            refine stepsHold.cons (fun wx hG hd K hK => ?_) ?_
            · have h99 : us 99 = (.bool false) := deps_get hd 0 rfl rfl rfl rfl rfl
              rw [if_pos (wanted_yes rfl rfl rfl rfl h99)]
              refine wp_value (w2 := wx) (v := .int .i64 eE) ?_ (hK _ _ rfl (Fr.refl _ _))
              clear hd hG hK
              go_simp
            refine stepsHold.cons (fun wx hG hd K hK => ?_) ?_
            · have h99 : us 99 = (.bool false) := deps_get hd 0 rfl rfl rfl rfl rfl
              rw [if_pos (wanted_yes rfl rfl rfl rfl h99)]
              refine wp_value (w2 := wx) (v := .int .i64 eE) ?_ (hK _ _ rfl (Fr.refl _ _))
              clear hd hG hK
              go_simp
            refine stepsHold.cons (fun wx hG hd K hK => ?_) ?_
            · have h100 : us 100 = (.int .i64 eE) := deps_get hd 0 rfl rfl rfl rfl rfl
              have h101 : us 101 = (.int .i64 eE) := deps_get hd 1 rfl rfl rfl rfl rfl
              have h99 : us 99 = (.bool false) := deps_get hd 2 rfl rfl rfl rfl rfl
              rw [if_pos (wanted_yes rfl rfl rfl rfl h99)]
              refine wp_value (w2 := wx) (v := .bool false) ?_ (hK _ _ rfl (Fr.refl _ _))
              clear hd hG hK
              go_simp
            refine stepsHold.cons (fun wx hG hd K hK => ?_) ?_
            · have h99 : us 99 = (.bool false) := deps_get hd 0 rfl rfl rfl rfl rfl
              have h102 : us 102 = (.bool false) := deps_get hd 1 rfl rfl rfl rfl rfl
              rw [if_pos (wanted_none rfl)]
              refine wp_value (w2 := wx) (v := .bool false) ?_ (hK _ _ rfl (Fr.refl _ _))
              clear hd hG hK
              go_simp
            exact stepsHold.nil
          case fin =>
            have h95 : us 95 = (.agg #[.int .i64 u2.version, .int .i64 u2.epoch, .int .i64 u2.blocks, .int .i64 u2.counters, .int .i64 u2.log, .int .i64 u2.head, .int .i64 u2.applied]) := all_get hall 0 rfl rfl rfl
            have h96 : us 96 = (.agg #[.int .i64 u2.version, .int .i64 u2.epoch, .int .i64 u2.blocks, .int .i64 u2.counters, .int .i64 u2.log, .int .i64 u2.head, .int .i64 u2.applied]) := all_get hall 1 rfl rfl rfl
            have h97 : us 97 = (.agg #[.int .i64 u2.version, .int .i64 u2.epoch, .int .i64 u2.blocks, .int .i64 u2.counters, .int .i64 u2.log, .int .i64 u2.head, .int .i64 u2.applied]) := all_get hall 2 rfl rfl rfl
            have h98 : us 98 = (.bool false) := all_get hall 3 rfl rfl rfl
            have h99 : us 99 = (.bool false) := all_get hall 4 rfl rfl rfl
            have h100 : us 100 = (.int .i64 eE) := all_get hall 5 rfl rfl rfl
            have h101 : us 101 = (.int .i64 eE) := all_get hall 6 rfl rfl rfl
            have h102 : us 102 = (.bool false) := all_get hall 7 rfl rfl rfl
            have h103 : us 103 = (.bool false) := all_get hall 8 rfl rfl rfl
            simp only [fillL, Nat.reduceAdd]
            clear hall
            simp only [h95, h96, h97, h98, h99, h100, h101, h102, h103]
            clear h95 h96 h97 h98 h99 h100 h101 h102 h103
            go_wp2_with fail
            go_meet
            exact ⟨⟨_, HD9.out.keep0 hG, HR9.out.keep0 hG, HBY.out.save _ (Sup.enc_bys _)⟩, HF9.out.then0 hG⟩
        have v1 : (x.what == 1) = false := by simp [w1]
        by_cases w3 : x.what = 3
        · have v3 : (x.what == 3) = true := by simp [w3]
          have hmx := (int_bounds HOK0.out.w2).2
          have c1 : W.cell? ⟨ob, 1, none⟩ = some (.int .i64 x.num) := by rw [cell_of HOB.out]; rfl
          clear w0 w1 w3
          go_wp2_with fail
          refine (budget_c HDW.out x.num hmx).mono ?_
          rintro e w7 ⟨rfl, g1, hf7'⟩
          have hf7 : Fr (Dv db lb mb) W w7 := hf7'.mono (fun _ h => .inl h)
          have c7 : w7.cell? ⟨ob, 1, none⟩ = some (.int .i64 x.num) := by
            have hh := hf7.keep HOB.out (fun h => HNS.out (.inl h))
            rw [cell_of hh]; rfl
          clear c1
          go_wp2_with fail
          refine (rbudget_c (HRW.out.keep hf7 (fun h => HAP.out _ h (.inl rfl)) (fun h => HAP.out _ h (.inr (.inl rfl))) (fun h => HAP.out _ h (.inr (.inr rfl)))) x.num hmx).mono ?_
          rintro e w8 ⟨rfl, g2, hf8'⟩
          have hf8 : Fr (Rv rb qb tb) w7 w8 := hf8'.mono (fun _ h => .inl h)
          have hf78 : Fr (fun i => Dv db lb mb i ∨ Rv rb qb tb i) W w8 := (hf7.mono (fun _ h => .inl h)).trans (hf8.mono (fun _ h => .inr h)) (fun _ h => .inl h)
          go_wp2_with fail
          go_meet
          exact ⟨⟨_, g1.keep hf8 (fun h => HAP.out _ (.inl rfl) h) (fun h => HAP.out _ (.inr (.inl rfl)) h) (fun h => HAP.out _ (.inr (.inr rfl)) h), g2, HBY.out.budgeted _⟩, hf78⟩
        have v3 : (x.what == 3) = false := by simp [w3]
        by_cases w4 : x.what = 4
        · have v4 : (x.what == 4) = true := by simp [w4]
          have c10 : W.cell? ⟨ob, 10, none⟩ = some (.slice x.kA x.kn x.kc) := by rw [cell_of HOB.out]; rfl
          clear w0 w1 w3 w4
          go_wp2_with fail
          refine (crash_c HDW.out x.kA x.kc x.keep x.kn HOK0.out.kl hKK (fun ad e hp h => HKN.out ad e hp (.inl h)) (by omega)).mono ?_
          rintro e w7 ⟨rfl, g1, hf7⟩
          have c7 : w7.cell? ⟨ob, 10, none⟩ = some (.slice x.kA x.kn x.kc) := by
            have hh := hf7.keep HOB.out (fun h => HNS.out (.inl h))
            rw [cell_of hh]; rfl
          have hK7 : ValsAt w7 x.kA (x.keep.map Value.bool) := by
            by_cases hp : 0 < x.keep.length
            · exact hKK.keep hf7 (fun ad e h => HKN.out ad e hp (.inl h))
            · exact ⟨fun h => absurd (by simpa using h) hp⟩
          clear c10
          go_wp2_with fail
          refine (rcrash_c (HRW.out.keep hf7 (fun h => HAP.out _ h (.inl rfl)) (fun h => HAP.out _ h (.inr (.inl rfl))) (fun h => HAP.out _ h (.inr (.inr rfl)))) x.kA x.kc x.keep x.kn HOK0.out.kl hK7 (fun ad e hp h => HKN.out ad e hp (.inr h)) (by omega)).mono ?_
          rintro e w8 ⟨rfl, g2, hf8⟩
          have hf78 : Fr (fun i => Dv db lb mb i ∨ Rv rb qb tb i) W w8 := (hf7.mono (fun _ h => .inl h)).trans (hf8.mono (fun _ h => .inr h)) (fun _ h => .inl h)
          go_wp2_with fail
          go_meet
          exact ⟨⟨_, g1.keep hf8 (fun h => HAP.out _ (.inl rfl) h) (fun h => HAP.out _ (.inr (.inl rfl)) h) (fun h => HAP.out _ (.inr (.inr rfl)) h), g2, HBY.out.crash _⟩, hf78⟩
        have v4 : (x.what == 4) = false := by simp [w4]
        by_cases w5 : x.what = 5
        · have v5 : (x.what == 5) = true := by simp [w5]
          have hok0 := HOK0.out
          have HOKB := Lib.hid hok0.bb
          clear w0 w1 w3 w4 w5 hok0
          go_upto_region 31 with fail
          refine wp_region_turn (S := (fun i => Dv db lb mb i ∨ Rv rb qb tb i)) [false, false, false, false, false, false, false, false, false, false, false, false, false, false, false, false, false, false, false, false, false, false, false, false, false, false, false, false, false, false, false, false, false, false, false, false, false, false, false, false, false, false, false, false, false, false, false, false, false, false, false, false, false, false, false, false, false, false, false, false, false, false, false, false, false, false, false, false, false, false, false, false, false, false, false, false, false, false, false, false, false, false, false, false, false, false, false, false, false, false, false, false, false, false, false, false, false, false, false, false, false, false, false, false, false, false, false, false, false, false, false, false, false, false, false, false, false, false, false, false, false, false, false, false, false, false, true, true, true, true, true, true, true, true, true, true, true, true, true, true, true, true, true, true, true, true, false, false, false, false, false, false, false, false, false, false, false, false, false, false, false, false, false, false, false, false] [.eq (.pointer (some ⟨db, 0, none⟩)), .eq (.pointer (some ⟨ob, 1, none⟩)), .eq (.int .i64 x.num), .eq (.pointer (some ⟨ob, 9, none⟩)), .eq (.slice x.bA x.bn x.bc), .eq (.int .i64 (D.writeE x.num x.b)), .eq (.pointer (some ⟨rb, 0, none⟩)), .eq (.pointer (some ⟨ob, 1, none⟩)), .eq (.int .i64 x.num), .eq (.pointer (some ⟨ob, 9, none⟩)), .eq (.slice x.bA x.bn x.bc), .eq (.int .i64 (D.writeE x.num x.b)), .eq (.bool false), .eq (.bool false), .eq (.pointer (some ⟨db, 0, none⟩)), .eq (.int .i64 (D.write x.num x.b).flushE), .eq (.pointer (some ⟨rb, 0, none⟩)), .eq (.int .i64 (D.write x.num x.b).flushE), .eq (.bool false), .eq (.bool false)] (PlayJ db lb mb rb qb tb D (D.write x.num x.b) (D.write x.num x.b).flush) [none, none, none, none, none, some 0, none, none, none, none, none, some 1, some 2, some 3, none, some 4, none, some 5, none, none] [] 6 (by kernel_rfl) (by kernel_rfl) (by rfl) (by kernel_rfl) ?hJ ?hJ0 (fun us => ?steps) (fun us wz hG hJ hall => ?fin)
          case hJ =>
            exact PlayJ.keep
          case hJ0 =>
            exact HJ0.out
          case steps =>
            simp only [fillL, Nat.reduceAdd]
            refine stepsTurn.cons (fun wx hG hd K hK => ?_) ?_
            · rw [if_pos (wanted_none rfl)]
              refine wp_value (w2 := wx) (v := .pointer (some ⟨db, 0, none⟩)) ?_ (hK _ _ rfl (Fr.refl _ _))
              clear hd hG hK
              go_simp
            refine stepsTurn.cons (fun wx hG hd K hK => ?_) ?_
            · rw [if_pos (wanted_none rfl)]
              refine wp_value (w2 := wx) (v := .pointer (some ⟨ob, 1, none⟩)) ?_ (hK _ _ rfl (Fr.refl _ _))
              clear hd hG hK
              go_simp
            refine stepsTurn.cons (fun wx hG hd K hK => ?_) ?_
            · have h127 : us 127 = (.pointer (some ⟨ob, 1, none⟩)) := deps_get hd 0 rfl rfl rfl rfl rfl
              rw [if_pos (wanted_none rfl)]
              have hh := hG.keep HOB.out HNS.out
              have hc : wx.cell? ⟨ob, 1, none⟩ = some (.int .i64 x.num) := by rw [cell_of hh]; rfl
              refine wp_value (w2 := wx) (v := .int .i64 x.num) ?_ (hK _ _ rfl (Fr.refl _ _))
              clear hd hK
              go_simp
            refine stepsTurn.cons (fun wx hG hd K hK => ?_) ?_
            · rw [if_pos (wanted_none rfl)]
              refine wp_value (w2 := wx) (v := .pointer (some ⟨ob, 9, none⟩)) ?_ (hK _ _ rfl (Fr.refl _ _))
              clear hd hG hK
              go_simp
            refine stepsTurn.cons (fun wx hG hd K hK => ?_) ?_
            · have h129 : us 129 = (.pointer (some ⟨ob, 9, none⟩)) := deps_get hd 0 rfl rfl rfl rfl rfl
              rw [if_pos (wanted_none rfl)]
              have hh := hG.keep HOB.out HNS.out
              have hc : wx.cell? ⟨ob, 9, none⟩ = some (.slice x.bA x.bn x.bc) := by rw [cell_of hh]; rfl
              refine wp_value (w2 := wx) (v := .slice x.bA x.bn x.bc) ?_ (hK _ _ rfl (Fr.refl _ _))
              clear hd hK
              go_simp
            refine stepsTurn.cons (fun wx hG hJ hd K hK => ?_) ?_
            · have h126 : us 126 = (.pointer (some ⟨db, 0, none⟩)) := deps_get hd 0 rfl rfl rfl rfl rfl
              have h128 : us 128 = (.int .i64 x.num) := deps_get hd 1 rfl rfl rfl rfl rfl
              have h130 : us 130 = (.slice x.bA x.bn x.bc) := deps_get hd 2 rfl rfl rfl rfl rfl
              rw [if_pos (wanted_none rfl)]
              refine wp_call (w2 := wx) (f := 21) (args := #[.pointer (some ⟨db, 0, none⟩), .int .i64 x.num, .slice x.bA x.bn x.bc]) ?_ ?_
              · clear hd hK
                go_simp
              · refine (write_c hJ.1 x.num x.bA x.bc x.b x.bn (HB.out.keep hG HBN.out) (fun hp ad e h => HBN.out hp ad e (.inl (.inl h)))).mono ?_
                rintro e w9 ⟨rfl, g1, hf⟩
                exact ⟨_, rfl, hK _ _ rfl (hf.mono (fun _ h => .inl h)) ⟨g1, hJ.2.keep hf (fun h => HAP.out _ h (.inl rfl)) (fun h => HAP.out _ h (.inr (.inl rfl))) (fun h => HAP.out _ h (.inr (.inr rfl)))⟩⟩
            refine stepsTurn.cons (fun wx hG hd K hK => ?_) ?_
            · rw [if_pos (wanted_none rfl)]
              refine wp_value (w2 := wx) (v := .pointer (some ⟨rb, 0, none⟩)) ?_ (hK _ _ rfl (Fr.refl _ _))
              clear hd hG hK
              go_simp
            refine stepsTurn.cons (fun wx hG hd K hK => ?_) ?_
            · rw [if_pos (wanted_none rfl)]
              refine wp_value (w2 := wx) (v := .pointer (some ⟨ob, 1, none⟩)) ?_ (hK _ _ rfl (Fr.refl _ _))
              clear hd hG hK
              go_simp
            refine stepsTurn.cons (fun wx hG hd K hK => ?_) ?_
            · have h133 : us 133 = (.pointer (some ⟨ob, 1, none⟩)) := deps_get hd 0 rfl rfl rfl rfl rfl
              rw [if_pos (wanted_none rfl)]
              have hh := hG.keep HOB.out HNS.out
              have hc : wx.cell? ⟨ob, 1, none⟩ = some (.int .i64 x.num) := by rw [cell_of hh]; rfl
              refine wp_value (w2 := wx) (v := .int .i64 x.num) ?_ (hK _ _ rfl (Fr.refl _ _))
              clear hd hK
              go_simp
            refine stepsTurn.cons (fun wx hG hd K hK => ?_) ?_
            · rw [if_pos (wanted_none rfl)]
              refine wp_value (w2 := wx) (v := .pointer (some ⟨ob, 9, none⟩)) ?_ (hK _ _ rfl (Fr.refl _ _))
              clear hd hG hK
              go_simp
            refine stepsTurn.cons (fun wx hG hd K hK => ?_) ?_
            · have h135 : us 135 = (.pointer (some ⟨ob, 9, none⟩)) := deps_get hd 0 rfl rfl rfl rfl rfl
              rw [if_pos (wanted_none rfl)]
              have hh := hG.keep HOB.out HNS.out
              have hc : wx.cell? ⟨ob, 9, none⟩ = some (.slice x.bA x.bn x.bc) := by rw [cell_of hh]; rfl
              refine wp_value (w2 := wx) (v := .slice x.bA x.bn x.bc) ?_ (hK _ _ rfl (Fr.refl _ _))
              clear hd hK
              go_simp
            refine stepsTurn.cons (fun wx hG hJ hd K hK => ?_) ?_
            · have h132 : us 132 = (.pointer (some ⟨rb, 0, none⟩)) := deps_get hd 0 rfl rfl rfl rfl rfl
              have h134 : us 134 = (.int .i64 x.num) := deps_get hd 1 rfl rfl rfl rfl rfl
              have h136 : us 136 = (.slice x.bA x.bn x.bc) := deps_get hd 2 rfl rfl rfl rfl rfl
              rw [if_pos (wanted_none rfl)]
              refine wp_call (w2 := wx) (f := 38) (args := #[.pointer (some ⟨rb, 0, none⟩), .int .i64 x.num, .slice x.bA x.bn x.bc]) ?_ ?_
              · clear hd hK
                go_simp
              · refine (rwrite_c hJ.2 x.num x.bA x.bc x.b x.bn (HB.out.keep hG HBN.out) (fun hp ad e h => HBN.out hp ad e (.inr (.inl h)))).mono ?_
                rintro e w9 ⟨rfl, g1, hf⟩
                exact ⟨_, rfl, hK _ _ rfl (hf.mono (fun _ h => .inr h)) ⟨hJ.1.keep hf (fun h => HAP.out _ (.inl rfl) h) (fun h => HAP.out _ (.inr (.inl rfl)) h) (fun h => HAP.out _ (.inr (.inr rfl)) h), g1⟩⟩
            refine stepsTurn.cons (fun wx hG hJ hd K hK => ?_) ?_
            · have h131 : us 131 = (.int .i64 (D.writeE x.num x.b)) := deps_get hd 0 rfl rfl rfl rfl rfl
              have h137 : us 137 = (.int .i64 (D.writeE x.num x.b)) := deps_get hd 1 rfl rfl rfl rfl rfl
              rw [if_pos (wanted_none rfl)]
              refine wp_value (w2 := wx) (v := .bool false) ?_ (hK _ _ rfl (Fr.refl _ _) hJ)
              clear hd hG hK
              go_simp
            refine stepsTurn.cons (fun wx hG hJ hd K hK => ?_) ?_
            · have h138 : us 138 = (.bool false) := deps_get hd 0 rfl rfl rfl rfl rfl
              rw [if_pos (wanted_none rfl)]
              refine wp_value (w2 := wx) (v := .bool false) ?_ (hK _ _ rfl (Fr.refl _ _) hJ)
              clear hd hG hK
              go_simp
            refine stepsTurn.cons (fun wx hG hd K hK => ?_) ?_
            · have h139 : us 139 = (.bool false) := deps_get hd 0 rfl rfl rfl rfl rfl
              rw [if_pos (wanted_yes rfl rfl rfl rfl h139)]
              refine wp_value (w2 := wx) (v := .pointer (some ⟨db, 0, none⟩)) ?_ (hK _ _ rfl (Fr.refl _ _))
              clear hd hG hK
              go_simp
            refine stepsTurn.cons (fun wx hG hJ hd K hK => ?_) ?_
            · have h140 : us 140 = (.pointer (some ⟨db, 0, none⟩)) := deps_get hd 0 rfl rfl rfl rfl rfl
              have h139 : us 139 = (.bool false) := deps_get hd 1 rfl rfl rfl rfl rfl
              rw [if_pos (wanted_yes rfl rfl rfl rfl h139)]
              refine wp_call (w2 := wx) (f := 39) (args := #[.pointer (some ⟨db, 0, none⟩)]) ?_ ?_
              · clear hd hK
                go_simp
              · refine (flush_c hJ.1).mono ?_
                rintro e w9 ⟨rfl, g1, hf⟩
                exact ⟨_, rfl, hK _ _ rfl (hf.mono (fun _ h => .inl h)) ⟨g1, hJ.2.keep hf (fun h => HAP.out _ h (.inl rfl)) (fun h => HAP.out _ h (.inr (.inl rfl))) (fun h => HAP.out _ h (.inr (.inr rfl)))⟩⟩
            refine stepsTurn.cons (fun wx hG hd K hK => ?_) ?_
            · have h139 : us 139 = (.bool false) := deps_get hd 0 rfl rfl rfl rfl rfl
              rw [if_pos (wanted_yes rfl rfl rfl rfl h139)]
              refine wp_value (w2 := wx) (v := .pointer (some ⟨rb, 0, none⟩)) ?_ (hK _ _ rfl (Fr.refl _ _))
              clear hd hG hK
              go_simp
            refine stepsTurn.cons (fun wx hG hJ hd K hK => ?_) ?_
            · have h142 : us 142 = (.pointer (some ⟨rb, 0, none⟩)) := deps_get hd 0 rfl rfl rfl rfl rfl
              have h139 : us 139 = (.bool false) := deps_get hd 2 rfl rfl rfl rfl rfl
              rw [if_pos (wanted_yes rfl rfl rfl rfl h139)]
              refine wp_call (w2 := wx) (f := 40) (args := #[.pointer (some ⟨rb, 0, none⟩)]) ?_ ?_
              · clear hd hK
                go_simp
              · refine (rflush_c hJ.2).mono ?_
                rintro e w9 ⟨rfl, g1, hf⟩
                exact ⟨_, rfl, hK _ _ rfl (hf.mono (fun _ h => .inr h)) ⟨hJ.1.keep hf (fun h => HAP.out _ (.inl rfl) h) (fun h => HAP.out _ (.inr (.inl rfl)) h) (fun h => HAP.out _ (.inr (.inr rfl)) h), g1⟩⟩
            refine stepsTurn.cons (fun wx hG hd K hK => ?_) ?_
            · have h141 : us 141 = (.int .i64 (D.write x.num x.b).flushE) := deps_get hd 0 rfl rfl rfl rfl rfl
              have h143 : us 143 = (.int .i64 (D.write x.num x.b).flushE) := deps_get hd 1 rfl rfl rfl rfl rfl
              have h139 : us 139 = (.bool false) := deps_get hd 2 rfl rfl rfl rfl rfl
              rw [if_pos (wanted_yes rfl rfl rfl rfl h139)]
              refine wp_value (w2 := wx) (v := .bool false) ?_ (hK _ _ rfl (Fr.refl _ _))
              clear hd hG hK
              go_simp
            refine stepsTurn.cons (fun wx hG hd K hK => ?_) ?_
            · have h139 : us 139 = (.bool false) := deps_get hd 0 rfl rfl rfl rfl rfl
              have h144 : us 144 = (.bool false) := deps_get hd 1 rfl rfl rfl rfl rfl
              rw [if_pos (wanted_none rfl)]
              refine wp_value (w2 := wx) (v := .bool false) ?_ (hK _ _ rfl (Fr.refl _ _))
              clear hd hG hK
              go_simp
            exact stepsTurn.nil
          case fin =>
            have h126 : us 126 = (.pointer (some ⟨db, 0, none⟩)) := all_get hall 0 rfl rfl rfl
            have h127 : us 127 = (.pointer (some ⟨ob, 1, none⟩)) := all_get hall 1 rfl rfl rfl
            have h128 : us 128 = (.int .i64 x.num) := all_get hall 2 rfl rfl rfl
            have h129 : us 129 = (.pointer (some ⟨ob, 9, none⟩)) := all_get hall 3 rfl rfl rfl
            have h130 : us 130 = (.slice x.bA x.bn x.bc) := all_get hall 4 rfl rfl rfl
            have h131 : us 131 = (.int .i64 (D.writeE x.num x.b)) := all_get hall 5 rfl rfl rfl
            have h132 : us 132 = (.pointer (some ⟨rb, 0, none⟩)) := all_get hall 6 rfl rfl rfl
            have h133 : us 133 = (.pointer (some ⟨ob, 1, none⟩)) := all_get hall 7 rfl rfl rfl
            have h134 : us 134 = (.int .i64 x.num) := all_get hall 8 rfl rfl rfl
            have h135 : us 135 = (.pointer (some ⟨ob, 9, none⟩)) := all_get hall 9 rfl rfl rfl
            have h136 : us 136 = (.slice x.bA x.bn x.bc) := all_get hall 10 rfl rfl rfl
            have h137 : us 137 = (.int .i64 (D.writeE x.num x.b)) := all_get hall 11 rfl rfl rfl
            have h138 : us 138 = (.bool false) := all_get hall 12 rfl rfl rfl
            have h139 : us 139 = (.bool false) := all_get hall 13 rfl rfl rfl
            have h140 : us 140 = (.pointer (some ⟨db, 0, none⟩)) := all_get hall 14 rfl rfl rfl
            have h141 : us 141 = (.int .i64 (D.write x.num x.b).flushE) := all_get hall 15 rfl rfl rfl
            have h142 : us 142 = (.pointer (some ⟨rb, 0, none⟩)) := all_get hall 16 rfl rfl rfl
            have h143 : us 143 = (.int .i64 (D.write x.num x.b).flushE) := all_get hall 17 rfl rfl rfl
            have h144 : us 144 = (.bool false) := all_get hall 18 rfl rfl rfl
            have h145 : us 145 = (.bool false) := all_get hall 19 rfl rfl rfl
            simp only [fillL, Nat.reduceAdd]
            clear hall
            simp only [h126, h127, h128, h129, h130, h131, h132, h133, h134, h135, h136, h137, h138, h139, h140, h141, h142, h143, h144, h145]
            clear h126 h127 h128 h129 h130 h131 h132 h133 h134 h135 h136 h137 h138 h139 h140 h141 h142 h143 h144 h145
            have hJ2 : DevAt Tryd.prog 3 wz db lb mb (D.write x.num x.b).flush ∧ RefAt wz rb qb tb (D.write x.num x.b).flush := hJ
            have HJ2 := Lib.hid hJ2
            clear hJ hJ2
            go_wp2_with fail
            go_meet
            exact ⟨⟨_, HJ2.out.1, HJ2.out.2, (HBY.out.write _ HOKB.out).flush⟩, hG⟩
        have v5 : (x.what == 5) = false := by simp [w5]
        clear w0 w1 w3 w4 w5
        go_wp2_with fail
        go_meet
        exact ⟨⟨_, HDW.out, HRW.out, HBY.out⟩, Fr.refl _ _⟩
      case rest =>
        obtain ⟨⟨D2, hD2, hR2, hBY2⟩, hfr2⟩ := hcut
        have HBY2 := Lib.hid hBY2
        have HF9 : Hid (Fr (fun i => Dv db lb mb i ∨ Rv rb qb tb i) w4 wc) := Lib.hid ((HFR.out.then0 HFW.out).trans hfr2 (fun _ h => .inl h))
        have hl2 := hD2.lt
        have hl3 := hR2.lt
        clear hfr2 hBY2
        go_wp2_with fail
        refine (load_n hD2 (fun i _ => HBY2.out.at i)).mono ?_
        rintro e w7 ⟨u, rfl, HUU, hf7⟩
        have hf7' : Fr F0 wc (w7.alloc (.cells #[.int .i64 u.version, .int .i64 u.epoch, .int .i64 u.blocks, .int .i64 u.counters, .int .i64 u.log, .int .i64 u.head, .int .i64 u.applied] 29)) := hf7.alloc _
        have HDW := Lib.hid (hD2.keep0 hf7')
        have HRW := Lib.hid (hR2.keep0 hf7')
        have HF9 := Lib.hid (HF9.out.then0 hf7')
        have CA : Hid ((w7.alloc (.cells #[.int .i64 u.version, .int .i64 u.epoch, .int .i64 u.blocks, .int .i64 u.counters, .int .i64 u.log, .int .i64 u.head, .int .i64 u.applied] 29)).heap[w7.heap.size]? = some (.cells u.cells.toArray 29 (0, 0))) := Lib.hid (alloc_at rfl _)
        obtain ⟨eE, heE⟩ : ∃ eE, eE = D2.loadE := ⟨_, rfl⟩
        rw [← heE]
        have HEE := Lib.hid heE
        clear hf7 hf7' hD2 hR2 heE
        go_wp2_with (refine wpList_store_fresh rfl 29 (.tmp 18) (.tmp 149) rfl #[.int .i64 u.version, .int .i64 u.epoch, .int .i64 u.blocks, .int .i64 u.counters, .int .i64 u.log, .int .i64 u.head, .int .i64 u.applied] (by rfl) (by rfl) 29 #[.int .i64 0, .int .i64 0, .int .i64 0, .int .i64 0, .int .i64 0, .int .i64 0, .int .i64 0] (by rw [size_super]; rfl) rfl (by rfl) ?_)
        refine (rload_n HRW.out (fun i _ => HBY2.out.at i)).mono ?_
        rintro e w8 ⟨u2, rfl, HUU2, hf8⟩
        obtain rfl : u2 = u := by rw [HUU2.out, HUU.out]
        rw [← HEE.out]
        obtain ⟨pA, hpA⟩ : ∃ p, p = w7.heap.size := ⟨_, rfl⟩
        rw [← hpA] at CA ⊢
        have hf8' : Fr F0 (w7.alloc (.cells #[.int .i64 u2.version, .int .i64 u2.epoch, .int .i64 u2.blocks, .int .i64 u2.counters, .int .i64 u2.log, .int .i64 u2.head, .int .i64 u2.applied] 29)) (w8.alloc (.cells #[.int .i64 u2.version, .int .i64 u2.epoch, .int .i64 u2.blocks, .int .i64 u2.counters, .int .i64 u2.log, .int .i64 u2.head, .int .i64 u2.applied] 23)) := hf8.alloc _
        have HR9 := Lib.hid (HRW.out.keep0 hf8')
        have HD9 := Lib.hid (HDW.out.keep0 hf8')
        have CA := Lib.hid (hf8'.keep0 CA.out)
        have CB : Hid ((w8.alloc (.cells #[.int .i64 u2.version, .int .i64 u2.epoch, .int .i64 u2.blocks, .int .i64 u2.counters, .int .i64 u2.log, .int .i64 u2.head, .int .i64 u2.applied] 23)).heap[w8.heap.size]? = some (.cells u2.cells.toArray 23 (0, 0))) := Lib.hid (alloc_at rfl _)
        have HF9 := Lib.hid (HF9.out.then0 hf8')
        clear hf8 hf8' hpA
        obtain ⟨pB, hpB⟩ : ∃ p, p = w8.heap.size := ⟨_, rfl⟩
        rw [← hpB] at CB
        go_upto_region 35 with (refine wpList_store_fresh rfl 23 (.tmp 20) (.tmp 154) rfl #[.int .i64 u2.version, .int .i64 u2.epoch, .int .i64 u2.blocks, .int .i64 u2.counters, .int .i64 u2.log, .int .i64 u2.head, .int .i64 u2.applied] (by rfl) (by rfl) 23 #[.int .i64 0, .int .i64 0, .int .i64 0, .int .i64 0, .int .i64 0, .int .i64 0, .int .i64 0] (by rw [size_rsuper]; rfl) rfl (by rfl) ?_)
        simp only [← hpB]
        clear hpB
        refine wp_region_free (S := F0) [false, false, false, false, false, false, false, false, false, false, false, false, false, false, false, false, false, false, false, false, false, false, false, false, false, false, false, false, false, false, false, false, false, false, false, false, false, false, false, false, false, false, false, false, false, false, false, false, false, false, false, false, false, false, false, false, false, false, false, false, false, false, false, false, false, false, false, false, false, false, false, false, false, false, false, false, false, false, false, false, false, false, false, false, false, false, false, false, false, false, false, false, false, false, false, false, false, false, false, false, false, false, false, false, false, false, false, false, false, false, false, false, false, false, false, false, false, false, false, false, false, false, false, false, false, false, false, false, false, false, false, false, false, false, false, false, false, false, false, false, false, false, false, false, false, false, false, false, false, false, false, false, false, false, false, false, true, true, true, true, true, true, true, true, true, false] [.eq (.agg #[.int .i64 u2.version, .int .i64 u2.epoch, .int .i64 u2.blocks, .int .i64 u2.counters, .int .i64 u2.log, .int .i64 u2.head, .int .i64 u2.applied]), .eq (.agg #[.int .i64 u2.version, .int .i64 u2.epoch, .int .i64 u2.blocks, .int .i64 u2.counters, .int .i64 u2.log, .int .i64 u2.head, .int .i64 u2.applied]), .eq (.agg #[.int .i64 u2.version, .int .i64 u2.epoch, .int .i64 u2.blocks, .int .i64 u2.counters, .int .i64 u2.log, .int .i64 u2.head, .int .i64 u2.applied]), .eq (.bool false), .eq (.bool false), .eq (.int .i64 eE), .eq (.int .i64 eE), .eq (.bool false), .eq (.bool false)] (by kernel_rfl) (by kernel_rfl) (by rfl) (fun us => ?steps) (fun us wz hG hall => ?fin)
        case steps =>
          simp only [fillL, Nat.reduceAdd]
          refine stepsHold.cons (fun wx hG hd K hK => ?_) ?_
          · rw [if_pos (wanted_none rfl)]
            obtain ⟨q0, q1, q2, q3, q4, q5, q6⟩ := sup_cells (s := u2) (hG.keep0 CA.out)
            refine wp_value (w2 := wx) (v := .agg #[.int .i64 u2.version, .int .i64 u2.epoch, .int .i64 u2.blocks, .int .i64 u2.counters, .int .i64 u2.log, .int .i64 u2.head, .int .i64 u2.applied]) ?_ (hK _ _ rfl (Fr.refl _ _))
            clear hd hK
            go_simp
          refine stepsHold.cons (fun wx hG hd K hK => ?_) ?_
          · have h156 : us 156 = (.agg #[.int .i64 u2.version, .int .i64 u2.epoch, .int .i64 u2.blocks, .int .i64 u2.counters, .int .i64 u2.log, .int .i64 u2.head, .int .i64 u2.applied]) := deps_get hd 0 rfl rfl rfl rfl rfl
            rw [if_pos (wanted_none rfl)]
            refine wp_call (w2 := wx) (f := 31) (args := #[.agg #[.int .i64 u2.version, .int .i64 u2.epoch, .int .i64 u2.blocks, .int .i64 u2.counters, .int .i64 u2.log, .int .i64 u2.head, .int .i64 u2.applied]]) ?_ ?_
            · clear hd hK
              go_simp
            · refine (theirs_c u2).mono ?_
              rintro e w9 ⟨rfl, hf9⟩
              exact ⟨_, rfl, hK _ _ rfl hf9⟩
          refine stepsHold.cons (fun wx hG hd K hK => ?_) ?_
          · rw [if_pos (wanted_none rfl)]
            obtain ⟨q0, q1, q2, q3, q4, q5, q6⟩ := sup_cells (s := u2) (hG.keep0 CB.out)
            refine wp_value (w2 := wx) (v := .agg #[.int .i64 u2.version, .int .i64 u2.epoch, .int .i64 u2.blocks, .int .i64 u2.counters, .int .i64 u2.log, .int .i64 u2.head, .int .i64 u2.applied]) ?_ (hK _ _ rfl (Fr.refl _ _))
            clear hd hK
            go_simp
          refine stepsHold.cons (fun wx hG hd K hK => ?_) ?_
          · have h157 : us 157 = (.agg #[.int .i64 u2.version, .int .i64 u2.epoch, .int .i64 u2.blocks, .int .i64 u2.counters, .int .i64 u2.log, .int .i64 u2.head, .int .i64 u2.applied]) := deps_get hd 0 rfl rfl rfl rfl rfl
            have h158 : us 158 = (.agg #[.int .i64 u2.version, .int .i64 u2.epoch, .int .i64 u2.blocks, .int .i64 u2.counters, .int .i64 u2.log, .int .i64 u2.head, .int .i64 u2.applied]) := deps_get hd 1 rfl rfl rfl rfl rfl
            rw [if_pos (wanted_none rfl)]
            refine wp_value (w2 := wx) (v := .bool false) ?_ (hK _ _ rfl (Fr.refl _ _))
            clear hd hG hK
            go_simp
          refine stepsHold.cons (fun wx hG hd K hK => ?_) ?_
          · have h159 : us 159 = (.bool false) := deps_get hd 0 rfl rfl rfl rfl rfl
            rw [if_pos (wanted_none rfl)]
            refine wp_value (w2 := wx) (v := .bool false) ?_ (hK _ _ rfl (Fr.refl _ _))
            clear hd hG hK
            go_simp
          refine stepsHold.cons (fun wx hG hd K hK => ?_) ?_
          · have h160 : us 160 = (.bool false) := deps_get hd 0 rfl rfl rfl rfl rfl
            rw [if_pos (wanted_yes rfl rfl rfl rfl h160)]
            refine wp_value (w2 := wx) (v := .int .i64 eE) ?_ (hK _ _ rfl (Fr.refl _ _))
            clear hd hG hK
            go_simp
          refine stepsHold.cons (fun wx hG hd K hK => ?_) ?_
          · have h160 : us 160 = (.bool false) := deps_get hd 0 rfl rfl rfl rfl rfl
            rw [if_pos (wanted_yes rfl rfl rfl rfl h160)]
            refine wp_value (w2 := wx) (v := .int .i64 eE) ?_ (hK _ _ rfl (Fr.refl _ _))
            clear hd hG hK
            go_simp
          refine stepsHold.cons (fun wx hG hd K hK => ?_) ?_
          · have h161 : us 161 = (.int .i64 eE) := deps_get hd 0 rfl rfl rfl rfl rfl
            have h162 : us 162 = (.int .i64 eE) := deps_get hd 1 rfl rfl rfl rfl rfl
            have h160 : us 160 = (.bool false) := deps_get hd 2 rfl rfl rfl rfl rfl
            rw [if_pos (wanted_yes rfl rfl rfl rfl h160)]
            refine wp_value (w2 := wx) (v := .bool false) ?_ (hK _ _ rfl (Fr.refl _ _))
            clear hd hG hK
            go_simp
          refine stepsHold.cons (fun wx hG hd K hK => ?_) ?_
          · have h160 : us 160 = (.bool false) := deps_get hd 0 rfl rfl rfl rfl rfl
            have h163 : us 163 = (.bool false) := deps_get hd 1 rfl rfl rfl rfl rfl
            rw [if_pos (wanted_none rfl)]
            refine wp_value (w2 := wx) (v := .bool false) ?_ (hK _ _ rfl (Fr.refl _ _))
            clear hd hG hK
            go_simp
          exact stepsHold.nil
        case fin =>
          have h156 : us 156 = (.agg #[.int .i64 u2.version, .int .i64 u2.epoch, .int .i64 u2.blocks, .int .i64 u2.counters, .int .i64 u2.log, .int .i64 u2.head, .int .i64 u2.applied]) := all_get hall 0 rfl rfl rfl
          have h157 : us 157 = (.agg #[.int .i64 u2.version, .int .i64 u2.epoch, .int .i64 u2.blocks, .int .i64 u2.counters, .int .i64 u2.log, .int .i64 u2.head, .int .i64 u2.applied]) := all_get hall 1 rfl rfl rfl
          have h158 : us 158 = (.agg #[.int .i64 u2.version, .int .i64 u2.epoch, .int .i64 u2.blocks, .int .i64 u2.counters, .int .i64 u2.log, .int .i64 u2.head, .int .i64 u2.applied]) := all_get hall 2 rfl rfl rfl
          have h159 : us 159 = (.bool false) := all_get hall 3 rfl rfl rfl
          have h160 : us 160 = (.bool false) := all_get hall 4 rfl rfl rfl
          have h161 : us 161 = (.int .i64 eE) := all_get hall 5 rfl rfl rfl
          have h162 : us 162 = (.int .i64 eE) := all_get hall 6 rfl rfl rfl
          have h163 : us 163 = (.bool false) := all_get hall 7 rfl rfl rfl
          have h164 : us 164 = (.bool false) := all_get hall 8 rfl rfl rfl
          simp only [fillL, Nat.reduceAdd]
          clear hall
          simp only [h156, h157, h158, h159, h160, h161, h162, h163, h164]
          clear h156 h157 h158 h159 h160 h161 h162 h163 h164
          go_wp2_with fail
          go_roundg (n - (j + 1))
          case measure => omega
          case rel =>
            exact ⟨j + 1, by omega, rfl, by first | rfl | (go_num), ⟨⟨D2, HD9.out.keep0 hG, HR9.out.keep0 hG, HBY2.out⟩, HF9.out.then0 hG⟩⟩
    · have hjn : j = n := by omega
      subst hjn
      go_wp2_with fail
      go_ret
      exact ⟨rfl, hf0⟩
end
end Go.Proofs.YtdeckbdaencjnaaDoor
