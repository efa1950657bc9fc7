/-
  A pool's free. Conditions: none.
-/
import Derived.Test.YtjfdfjenodianaaK17c
set_option linter.unusedVariables false
set_option linter.unusedSimpArgs false
namespace Go.Proofs.Ytjfdfjenodianaa
open Go.RowKit
theorem Pl.turn_same {P : Pl} {i : Nat} {f : Fm} (h : P.turn.fs[i]? = some f) : ∃ u, P.fs[i]? = some { f with used := u } := by
  unfold Pl.turn at h
  split at h
  · exact ⟨f.used, h⟩
  · rename_i g hg
    by_cases hij : P.hand = i
    · subst hij
      have hl := (List.getElem?_eq_some_iff.1 hg).1
      simp only [List.getElem?_set_self hl, Option.some.injEq] at h
      subst h
      exact ⟨g.used, hg⟩
    · simp only [List.getElem?_set_ne hij] at h
      exact ⟨f.used, h⟩
theorem Pl.round_same : ∀ (k : Nat) (P : Pl) (i : Nat) (f : Fm), (P.round k).2.fs[i]? = some f → ∃ u, P.fs[i]? = some { f with used := u }
  | 0, P, i, f, h => ⟨f.used, h⟩
  | k + 1, P, i, f, h => by
    unfold Pl.round at h
    split at h
    · exact Pl.turn_same h
    · obtain ⟨u, hu⟩ := Pl.round_same k P.turn i f h
      obtain ⟨u', hu'⟩ := Pl.turn_same hu
      exact ⟨u', hu'⟩
theorem Pl.turn_room (P : Pl) : P.turn.room = P.room ∧ P.turn.safe = P.safe ∧ P.turn.reads = P.reads := by
  unfold Pl.turn
  split <;> exact ⟨rfl, rfl, rfl⟩
theorem Pl.round_room : ∀ (k : Nat) (P : Pl), (P.round k).2.room = P.room ∧ (P.round k).2.safe = P.safe ∧ (P.round k).2.reads = P.reads
  | 0, P => ⟨rfl, rfl, rfl⟩
  | k + 1, P => by
    unfold Pl.round
    split
    · exact P.turn_room
    · have h1 := Pl.round_room k P.turn
      have h2 := P.turn_room
      exact ⟨h1.1.trans h2.1, h1.2.1.trans h2.2.1, h1.2.2.trans h2.2.2⟩
theorem Pl.round_hand : ∀ (k : Nat) (P : Pl), P.hand < P.fs.length → (P.round k).2.hand < P.fs.length
  | 0, P, h => h
  | k + 1, P, h => by
    have ht := Pl.turn_hand h
    rw [Pl.turn_len] at ht
    unfold Pl.round
    split
    · exact ht
    · have := Pl.round_hand k P.turn (by rw [Pl.turn_len]; exact ht)
      rw [Pl.turn_len] at this
      exact this
section
variable {w : World} {M : Nat → Prop} {pb db lb mb : Nat} {P : Pl} {v : Value} {fbs : List Nat} {D : Dev}
/-- What stands of a device ahead of a write, and behind it. -/
def WrJ (db lb mb : Nat) (D D' : Dev) : Nat → (Nat → Value) → World → Prop
  | 0, _, w => DevAt Try.prog 3 w db lb mb D
  | _ + 1, _, w => DevAt Try.prog 3 w db lb mb D'
theorem WrJ.keep {db lb mb : Nat} {D D' : Dev} : ∀ (k : Nat) (us us' : Nat → Value) (w' w'' : World), WrJ db lb mb D D' k us w' → (∀ x ∈ ([] : List Nat), us' x = us x) → Fr F0 w' w'' → WrJ db lb mb D D' k us' w''
  | 0, _, _, _, _, h, _, hf => DevAt.keep0 h hf
  | _ + 1, _, _, _, _, h, _, hf => DevAt.keep0 h hf
inductive PFreeRet (w w' : World) (e : Ending) (M : Nat → Prop) (pb db lb mb m : Nat) (ro : Int) (P Q : Pl) (o : Option Nat) (v : Value) (fbs : List Nat) (D : Dev) : Prop
  | new (h : (m : Int) < ro) (he : e = .returned (.tuple #[.pointer none, .int .i64 0])) (hp : PoolAt w' pb db M P v fbs) (hd : DevAt Try.prog 3 w' db lb mb D) (hf : Fr F0 w w') : PFreeRet w w' e M pb db lb mb m ro P Q o v fbs D
  | full (h : ¬ (m : Int) < ro) (ho : o = none) (he : e = .returned (.tuple #[.pointer none, .int .i64 5])) (hp : PoolAt w' pb db M Q v fbs) (hd : DevAt Try.prog 3 w' db lb mb D) (hf : Fr M w w') : PFreeRet w w' e M pb db lb mb m ro P Q o v fbs D
  | old (h : ¬ (m : Int) < ro) (i : Nat) (f : Fm) (ho : o = some i) (hi : Q.fs[i]? = some f) (he : e = .returned (.tuple #[fptr fbs (some i), .int .i64 0])) (hp : PoolAt w' pb db M Q v fbs) (hd : DevAt Try.prog 3 w' db lb mb (if f.dirty = true then D.write f.at_ f.b else D)) (hf : Fr (fun k => M k ∨ Dv db lb mb k) w w') : PFreeRet w w' e M pb db lb mb m ro P Q o v fbs D
set_option maxRecDepth 100000 in
set_option maxHeartbeats 2000000 in
theorem pfree_c {n : Nat} (h : PoolAt w pb db M P v fbs) (hD : DevAt Try.prog 3 w db lb mb D) (hg : GoodD D n) (ok : PoolOk P n) (hMD : ∀ k, Dv db lb mb k → ¬ M k) :
    Calls Try.prog 37 #[.pointer (some ⟨pb, 0, none⟩)] w fun e w' => PFreeRet w w' e M pb db lb mb P.fs.length P.room P (P.round (2 * P.fs.length)).2 (P.round (2 * P.fs.length)).1 v fbs D := by
  have hmf : ∀ (fn : Fn) (first cap : Array Value) (w : World), (Instr.makeFunc fn first cap).run Try.prog w = .ok (.func fn first cap) w := fun _ _ _ _ => rfl
  have HA := Lib.hid ((Fr.refl F0 w).alloc (.cells #[.pointer (some ⟨pb, 0, none⟩)] 29))
  have hp := h.keep0 HA.out
  have HP := Lib.hid hp
  have HDV := Lib.hid (hD.keep0 HA.out)
  obtain ⟨c0, c1, c2, c3, c4, c5, z1, z3, z4, z5⟩ := hp.cells
  have hx : (w.alloc (.cells #[.pointer (some ⟨pb, 0, none⟩)] 29)).heap[w.heap.size]? = some (.cells #[.pointer (some ⟨pb, 0, none⟩)] 29 (0, 0)) := heap_alloc_new w _
  have HX := Lib.hid hx
  have hxc : (w.alloc (.cells #[.pointer (some ⟨pb, 0, none⟩)] 29)).cell? ⟨w.heap.size, 0, none⟩ = some (.pointer (some ⟨pb, 0, none⟩)) := by rw [cell_of hx]; rfl
  have HXN : Hid (¬ M w.heap.size) := Lib.hid (fun hm => by have := h.mlt _ hm; omega)
  have HG := Lib.hid hg
  have OK := Lib.hid ok
  have HMD := Lib.hid hMD
  obtain ⟨A, cp, hv, -, -, -, -⟩ := ValsAt.of_own h.own
  obtain ⟨m, hm⟩ : ∃ m, m = P.fs.length := ⟨_, rfl⟩
  have HM := Lib.hid hm
  rw [← hm] at hv ⊢
  subst hv
  obtain ⟨ro, hro⟩ : ∃ ro, ro = P.room := ⟨_, rfl⟩
  have HRO := Lib.hid hro
  rw [← hro] at c2 ⊢
  obtain ⟨Q, hQ⟩ : ∃ Q, Q = (P.round (2 * m)).2 := ⟨_, rfl⟩
  obtain ⟨o, ho⟩ : ∃ o, o = (P.round (2 * m)).1 := ⟨_, rfl⟩
  rw [← hQ, ← ho]
  have HQ := Lib.hid hQ
  have HOO := Lib.hid ho
  clear hQ ho
  have m0 : (0 : Int) ≤ (m : Int) := Int.natCast_nonneg _
  have HDL : Hid (∀ k, Dv db lb mb k → k < w.heap.size) := Lib.hid (fun k hk => by
    obtain ⟨h2, h3, h4⟩ := hD.lt
    rcases hk with h | h | h <;> omega)
  clear h hp hD hg ok hMD hx c0 c3 c4 c5 z1 z3 z4 z5 hm hro
  by_cases hlt : (m : Int) < ro
  · go_enter Try.func37, Try.ntmps37
    go_wp2_with fail
    generalize w.alloc (.cells #[.pointer (some ⟨pb, 0, none⟩)] 29) = W at *
    go_still (by kernel_rfl)
    go_wp2_with fail
    go_ret2
    exact .new hlt rfl (HP.out.keep0 ((Fr.refl F0 _).drew)) (HDV.out.keep0 ((Fr.refl F0 _).drew)) (HA.out.drew)
  · have hm1 : P.hand < P.fs.length := by
      have hr0 := OK.out.room0
      have hl0 : 0 < P.fs.length := by
        rw [← HM.out]
        rw [← HRO.out] at hr0
        omega
      rcases OK.out.hand with h | h
      · rw [h]; exact hl0
      · exact h
    have hm64 : P.fs.length ≤ 64 := by have := OK.out.room1; have := OK.out.fit; omega
    have H1 := Lib.hid hm1
    have H64 := Lib.hid hm64
    clear hm1 hm64
    go_enter Try.func37, Try.ntmps37
    go_wp2_with fail
    generalize w.alloc (.cells #[.pointer (some ⟨pb, 0, none⟩)] 29) = W at *
    go_still (by kernel_rfl)
    go_wp2_with fail
    have HA2 := Lib.hid (HA.out.drew)
    have HP2 := Lib.hid (HP.out.keep0 ((Fr.refl F0 W).drew))
    have HD2 := Lib.hid (HDV.out.keep0 ((Fr.refl F0 W).drew))
    have hx2 : W.drew.heap[w.heap.size]? = some (.cells #[.pointer (some ⟨pb, 0, none⟩)] 29 (0, 0)) := HX.out
    have HX2 := Lib.hid hx2
    clear c1 c2 hx2 hxc
    refine (round_c (w := W.drew) HP2.out w.heap.size HX2.out HXN.out H64.out H1.out).mono ?_
    rintro e w3 ⟨rfl, hp3, hf3⟩
    rw [← HM.out, ← HQ.out] at hp3
    rw [← HM.out, ← HOO.out]
    have HF3 := Lib.hid ((HA2.out.of0 (S := M)).trans hf3 (fun k hk => .inl hk))
    have hx3 : w3.cell? ⟨w.heap.size, 0, none⟩ = some (.pointer (some ⟨pb, 0, none⟩)) := by
      have h2 := hf3.keep HX2.out HXN.out
      rw [cell_of h2]
      rfl
    have HD3 := Lib.hid (HD2.out.keep hf3 (fun k => HMD.out _ (.inl rfl) k) (fun k => HMD.out _ (.inr (.inl rfl)) k) (fun k => HMD.out _ (.inr (.inr rfl)) k))
    have HP3 := Lib.hid hp3
    clear hp3 hf3
    cases o with
    | none =>
      have hfp : fptr fbs none = .pointer none := rfl
      rw [hfp]
      go_wp2_with fail
      go_ret2
      exact .full (by omega) rfl rfl HP3.out HD3.out HF3.out
    | some i =>
      have hil : i < fbs.length := by
        rw [HP.out.len]
        exact Pl.round_lt _ P i HOO.out.symm
      obtain ⟨b, hb⟩ : ∃ b, fbs[i]? = some b := ⟨fbs[i]'hil, List.getElem?_eq_getElem _⟩
      have hfp : fptr fbs (some i) = .pointer (some ⟨b, 0, none⟩) := by
        have : fbs.getD i 0 = b := by rw [List.getD_eq_getElem?_getD, hb]; rfl
        show Value.pointer (some ⟨fbs.getD i 0, 0, none⟩) = _
        rw [this]
      obtain ⟨f, hf⟩ : ∃ f, Q.fs[i]? = some f := ⟨Q.fs[i]'(by rw [← HP3.out.len]; exact hil), List.getElem?_eq_getElem _⟩
      have HFQ := Lib.hid hf
      have HBI := Lib.hid hb
      have hfm := HP3.out.fr i f b hf hb
      have HFM := Lib.hid hfm
      obtain ⟨f0, f2, f3, f4, f5, y1, y2, y3, y4, y5, Ab, cb, f1, hby, hmb⟩ := hfm.cells
      have HBY := Lib.hid hby
      have HMB : Hid (∀ ad, Ab = some ad → M ad.block) := Lib.hid (fun ad e => (hmb ad e).1)
      have HFP := Lib.hid hfp
      rw [hfp]
      obtain ⟨d0, d1, d2, d3, d4, d5, x1, x3, x4, x5⟩ := HP3.out.cells
      have HPL : Hid (0 ≤ f.at_ ∧ f.at_ < (n : Int)) := Lib.hid (by
        have h5 := HFQ.out
        rw [HQ.out] at h5
        obtain ⟨u, hu⟩ := Pl.round_same _ P i f h5
        have h6 := OK.out.places { f with used := u } (List.mem_of_getElem? hu)
        exact h6)
      clear hb hf hfm hby hmb f3 f4 f5 y1 y2 y3 y4 y5 d1 d2 d3 d4 d5 x1 x3 x4 x5 hil hfp
      rcases Bool.eq_false_or_eq_true f.dirty with hd | hd
      · rw [hd] at f2
        have HDI := Lib.hid hd
        clear hd
        obtain ⟨g1, g2, g3, g4, g5, g6⟩ := HG.out.write HPL.out.1 HPL.out.2 (s := f.b) (by rw [HFM.out.len]; decide)
        have HW1 := Lib.hid g1
        clear g1 g2 g3 g4 g5 g6
        have kc : ∀ (p : Addr) (u : Value), w3.cell? p = some u → ¬ Dv db lb mb p.block → ∀ wx, Fr (Dv db lb mb) w3 wx → wx.cell? p = some u := fun p u h hn wx hG => (World.cell?_of_block (w := w3) (hG.block _ (World.block_lt_of_cell? w3 _ h) hn)).trans h
        have hbM : M b := HP3.out.mf b (List.mem_of_getElem? HBI.out)
        have kA := kc _ _ hx3 (fun hk => by have h5 := HDL.out _ hk; exact absurd h5 (Nat.lt_irrefl _))
        have kB := kc _ _ d0 (fun hk => HMD.out _ hk HP3.out.mp)
        have kC := kc _ _ f0 (fun hk => HMD.out _ hk hbM)
        have kD := kc _ _ f1 (fun hk => HMD.out _ hk hbM)
        have HB64 : Hid (∀ wx, Fr (Dv db lb mb) w3 wx → BytesAt wx Ab 64 f.b) := Lib.hid (fun wx hG => by
          have h5 := (HBY.out.keep hG (fun hp ad e hs => HMD.out _ hs (HMB.out ad e))).at_
          rw [HFM.out.len] at h5
          exact h5)
        clear kc hbM f0 f1 hx3 d0
        go_wp2_with fail
        generalize w.heap.size = bx at *
        refine wp_region_turn2 (S := (Dv db lb mb)) [false, false, true, true, false, false, false, false, false, false, false, false, false, false, false, false, false, false, false, false, false, false, false, false, true, true, true, true, true, true, true, true, true, true, true, true, true, true, false] [.eq (.pointer (some ⟨b, 0, none⟩)), .eq (.pointer (some ⟨pb, 0, none⟩)), .eq (.pointer (some ⟨pb, 0, none⟩)), .eq (.pointer (some ⟨pb, 0, none⟩)), .eq (.pointer (some ⟨db, 0, none⟩)), .eq (.pointer (some ⟨b, 0, none⟩)), .eq (.pointer (some ⟨b, 0, none⟩)), .eq (.pointer (some ⟨b, 0, none⟩)), .eq (.int .i64 f.at_), .eq (.pointer (some ⟨b, 0, none⟩)), .eq (.pointer (some ⟨b, 0, none⟩)), .eq (.pointer (some ⟨b, 1, none⟩)), .eq (.slice Ab 64 cb), .eq (.int .i64 0), .eq (.pointer (some ⟨b, 0, none⟩)), .eq (.int .i64 0)] (WrJ db lb mb D (D.write f.at_ f.b)) [none, none, none, none, none, none, none, none, none, none, none, none, none, some 0, none, none] [1, 0, 0, 0, 0, 0, 0, 0, 0, 0, 0, 0, 0, 1, 1, 1] [] 1 (by kernel_rfl) (by kernel_rfl) (by rfl) (by kernel_rfl) (by kernel_rfl) ?hJ ?hJ0 (fun us => ?steps) (fun us w3 hG hJ hall => ?fin)
        case hJ =>
          exact WrJ.keep
        case hJ0 =>
          exact HD3.out
        case steps =>
          simp only [fillL, Nat.reduceAdd]
          refine stepsTurn2.cons (fun wx kk hG hkk hJ hd K hK => ?_) ?_
          · rw [if_pos (wanted_none rfl)]
            refine wp_value (w2 := wx) (v := .pointer (some ⟨b, 0, none⟩)) ?_ (hK _ _ rfl (Fr.refl _ _))
            clear hd hG hK hJ
            go_simp
          refine stepsTurn2.cons (fun wx kk hG hkk hJ hd K hK => ?_) ?_
          · obtain rfl : kk = 0 := Nat.le_zero.1 hkk
            rw [if_pos (wanted_none rfl)]
            have hc := kA wx hG
            clear hJ
            refine wp_value (w2 := wx) (v := .pointer (some ⟨pb, 0, none⟩)) ?_ (hK _ _ rfl (Fr.refl _ _))
            clear hd hK
            go_simp
          refine stepsTurn2.cons (fun wx kk hG hkk hJ hd K hK => ?_) ?_
          · have h25 : us 25 = (.pointer (some ⟨pb, 0, none⟩)) := deps_get hd 0 rfl rfl rfl rfl rfl
            obtain rfl : kk = 0 := Nat.le_zero.1 hkk
            rw [if_pos (wanted_none rfl)]
            refine wp_value (w2 := wx) (v := .pointer (some ⟨pb, 0, none⟩)) ?_ (hK _ _ rfl (Fr.refl _ _))
            clear hd hG hK hJ
            go_simp
          refine stepsTurn2.cons (fun wx kk hG hkk hJ hd K hK => ?_) ?_
          · have h26 : us 26 = (.pointer (some ⟨pb, 0, none⟩)) := deps_get hd 0 rfl rfl rfl rfl rfl
            obtain rfl : kk = 0 := Nat.le_zero.1 hkk
            rw [if_pos (wanted_none rfl)]
            refine wp_value (w2 := wx) (v := .pointer (some ⟨pb, 0, none⟩)) ?_ (hK _ _ rfl (Fr.refl _ _))
            clear hd hG hK hJ
            go_simp
          refine stepsTurn2.cons (fun wx kk hG hkk hJ hd K hK => ?_) ?_
          · have h27 : us 27 = (.pointer (some ⟨pb, 0, none⟩)) := deps_get hd 0 rfl rfl rfl rfl rfl
            obtain rfl : kk = 0 := Nat.le_zero.1 hkk
            rw [if_pos (wanted_none rfl)]
            have hc := kB wx hG
            clear hJ
            refine wp_value (w2 := wx) (v := .pointer (some ⟨db, 0, none⟩)) ?_ (hK _ _ rfl (Fr.refl _ _))
            clear hd hK
            go_simp
          refine stepsTurn2.cons (fun wx kk hG hkk hJ hd K hK => ?_) ?_
          · obtain rfl : kk = 0 := Nat.le_zero.1 hkk
            rw [if_pos (wanted_none rfl)]
            refine wp_value (w2 := wx) (v := .pointer (some ⟨b, 0, none⟩)) ?_ (hK _ _ rfl (Fr.refl _ _))
            clear hd hG hK hJ
            go_simp
          refine stepsTurn2.cons (fun wx kk hG hkk hJ hd K hK => ?_) ?_
          · have h29 : us 29 = (.pointer (some ⟨b, 0, none⟩)) := deps_get hd 0 rfl rfl rfl rfl rfl
            obtain rfl : kk = 0 := Nat.le_zero.1 hkk
            rw [if_pos (wanted_none rfl)]
            refine wp_value (w2 := wx) (v := .pointer (some ⟨b, 0, none⟩)) ?_ (hK _ _ rfl (Fr.refl _ _))
            clear hd hG hK hJ
            go_simp
          refine stepsTurn2.cons (fun wx kk hG hkk hJ hd K hK => ?_) ?_
          · have h30 : us 30 = (.pointer (some ⟨b, 0, none⟩)) := deps_get hd 0 rfl rfl rfl rfl rfl
            obtain rfl : kk = 0 := Nat.le_zero.1 hkk
            rw [if_pos (wanted_none rfl)]
            refine wp_value (w2 := wx) (v := .pointer (some ⟨b, 0, none⟩)) ?_ (hK _ _ rfl (Fr.refl _ _))
            clear hd hG hK hJ
            go_simp
          refine stepsTurn2.cons (fun wx kk hG hkk hJ hd K hK => ?_) ?_
          · have h31 : us 31 = (.pointer (some ⟨b, 0, none⟩)) := deps_get hd 0 rfl rfl rfl rfl rfl
            obtain rfl : kk = 0 := Nat.le_zero.1 hkk
            rw [if_pos (wanted_none rfl)]
            have hc := kC wx hG
            clear hJ
            refine wp_value (w2 := wx) (v := .int .i64 f.at_) ?_ (hK _ _ rfl (Fr.refl _ _))
            clear hd hK
            go_simp
          refine stepsTurn2.cons (fun wx kk hG hkk hJ hd K hK => ?_) ?_
          · obtain rfl : kk = 0 := Nat.le_zero.1 hkk
            rw [if_pos (wanted_none rfl)]
            refine wp_value (w2 := wx) (v := .pointer (some ⟨b, 0, none⟩)) ?_ (hK _ _ rfl (Fr.refl _ _))
            clear hd hG hK hJ
            go_simp
          refine stepsTurn2.cons (fun wx kk hG hkk hJ hd K hK => ?_) ?_
          · have h33 : us 33 = (.pointer (some ⟨b, 0, none⟩)) := deps_get hd 0 rfl rfl rfl rfl rfl
            obtain rfl : kk = 0 := Nat.le_zero.1 hkk
            rw [if_pos (wanted_none rfl)]
            refine wp_value (w2 := wx) (v := .pointer (some ⟨b, 0, none⟩)) ?_ (hK _ _ rfl (Fr.refl _ _))
            clear hd hG hK hJ
            go_simp
          refine stepsTurn2.cons (fun wx kk hG hkk hJ hd K hK => ?_) ?_
          · have h34 : us 34 = (.pointer (some ⟨b, 0, none⟩)) := deps_get hd 0 rfl rfl rfl rfl rfl
            obtain rfl : kk = 0 := Nat.le_zero.1 hkk
            rw [if_pos (wanted_none rfl)]
            refine wp_value (w2 := wx) (v := .pointer (some ⟨b, 1, none⟩)) ?_ (hK _ _ rfl (Fr.refl _ _))
            clear hd hG hK hJ
            go_simp
          refine stepsTurn2.cons (fun wx kk hG hkk hJ hd K hK => ?_) ?_
          · have h35 : us 35 = (.pointer (some ⟨b, 1, none⟩)) := deps_get hd 0 rfl rfl rfl rfl rfl
            obtain rfl : kk = 0 := Nat.le_zero.1 hkk
            rw [if_pos (wanted_none rfl)]
            have hc := kD wx hG
            clear hJ
            refine wp_value (w2 := wx) (v := .slice Ab 64 cb) ?_ (hK _ _ rfl (Fr.refl _ _))
            clear hd hK
            go_simp
          refine stepsTurn2.cons (fun wx hG hJ hd K hK => ?_) ?_
          · have h28 : us 28 = (.pointer (some ⟨db, 0, none⟩)) := deps_get hd 0 rfl rfl rfl rfl rfl
            have h32 : us 32 = (.int .i64 f.at_) := deps_get hd 1 rfl rfl rfl rfl rfl
            have h36 : us 36 = (.slice Ab 64 cb) := deps_get hd 2 rfl rfl rfl rfl rfl
            rw [if_pos (wanted_none rfl)]
            refine wp_call (w2 := wx) (f := 18) (args := #[.pointer (some ⟨db, 0, none⟩), .int .i64 f.at_, .slice Ab 64 cb]) ?_ ?_
            · clear hd hK
              go_simp
            · refine (write_c (w := wx) hJ f.at_ Ab cb f.b 64 (HB64.out wx hG) (fun hp ad e h => HMD.out _ (.inl rfl) (by have := HMB.out ad e; rw [h] at this; exact this))).mono ?_
              rintro e w9 ⟨rfl, g1, hf⟩
              rw [HW1.out]
              exact ⟨_, rfl, hK _ _ rfl hf g1⟩
          refine stepsTurn2.cons (fun wx kk hG hkk hJ hd K hK => ?_) ?_
          · have h24 : us 24 = (.pointer (some ⟨b, 0, none⟩)) := deps_get hd 0 rfl rfl rfl rfl rfl
            rw [if_pos (wanted_none rfl)]
            refine wp_value (w2 := wx) (v := .pointer (some ⟨b, 0, none⟩)) ?_ (hK _ _ rfl (Fr.refl _ _))
            clear hd hG hK hJ
            go_simp
          refine stepsTurn2.cons (fun wx kk hG hkk hJ hd K hK => ?_) ?_
          · have h37 : us 37 = (.int .i64 0) := deps_get hd 0 rfl rfl rfl rfl rfl
            rw [if_pos (wanted_none rfl)]
            refine wp_value (w2 := wx) (v := .int .i64 0) ?_ (hK _ _ rfl (Fr.refl _ _))
            clear hd hG hK hJ
            go_simp
          exact stepsTurn2.nil
        case fin =>
          have h24 : us 24 = (.pointer (some ⟨b, 0, none⟩)) := all_get hall 0 rfl rfl rfl
          have h25 : us 25 = (.pointer (some ⟨pb, 0, none⟩)) := all_get hall 1 rfl rfl rfl
          have h26 : us 26 = (.pointer (some ⟨pb, 0, none⟩)) := all_get hall 2 rfl rfl rfl
          have h27 : us 27 = (.pointer (some ⟨pb, 0, none⟩)) := all_get hall 3 rfl rfl rfl
          have h28 : us 28 = (.pointer (some ⟨db, 0, none⟩)) := all_get hall 4 rfl rfl rfl
          have h29 : us 29 = (.pointer (some ⟨b, 0, none⟩)) := all_get hall 5 rfl rfl rfl
          have h30 : us 30 = (.pointer (some ⟨b, 0, none⟩)) := all_get hall 6 rfl rfl rfl
          have h31 : us 31 = (.pointer (some ⟨b, 0, none⟩)) := all_get hall 7 rfl rfl rfl
          have h32 : us 32 = (.int .i64 f.at_) := all_get hall 8 rfl rfl rfl
          have h33 : us 33 = (.pointer (some ⟨b, 0, none⟩)) := all_get hall 9 rfl rfl rfl
          have h34 : us 34 = (.pointer (some ⟨b, 0, none⟩)) := all_get hall 10 rfl rfl rfl
          have h35 : us 35 = (.pointer (some ⟨b, 1, none⟩)) := all_get hall 11 rfl rfl rfl
          have h36 : us 36 = (.slice Ab 64 cb) := all_get hall 12 rfl rfl rfl
          have h37 : us 37 = (.int .i64 0) := all_get hall 13 rfl rfl rfl
          have h2 : us 2 = (.pointer (some ⟨b, 0, none⟩)) := all_get hall 14 rfl rfl rfl
          have h3 : us 3 = (.int .i64 0) := all_get hall 15 rfl rfl rfl
          simp only [fillL, Nat.reduceAdd]
          clear hall
          simp only [h24, h25, h26, h27, h28, h29, h30, h31, h32, h33, h34, h35, h36, h37, h2, h3]
          clear h24 h25 h26 h27 h28 h29 h30 h31 h32 h33 h34 h35 h36 h37 h2 h3
          have HD5 : Hid (DevAt Try.prog 3 w3 db lb mb (D.write f.at_ f.b)) := Lib.hid hJ
          have HP5 := Lib.hid (HP3.out.keep hG (fun k hk hm => HMD.out k hk hm))
          have HF5 : Hid (Fr (fun k => M k ∨ Dv db lb mb k) w w3) := Lib.hid ((HF3.out.mono (fun k hk => .inl hk)).trans hG (fun k hk => .inl (.inr hk)))
          clear hG hJ
          go_wp2_with fail
          go_ret2
          exact .old (by omega) i f rfl HFQ.out (by rw [HFP.out]; rfl) HP5.out (by rw [if_pos HDI.out]; exact HD5.out) HF5.out
      · rw [hd] at f2
        have HDI := Lib.hid hd
        clear hd
        go_wp2_with fail
        go_ret2
        exact .old (by omega) i f rfl HFQ.out (by rw [HFP.out]; rfl) HP3.out (by rw [if_neg (by rw [HDI.out]; decide)]; exact HD3.out) (HF3.out.mono (fun k hk => .inl hk))
end
end Go.Proofs.Ytjfdfjenodianaa
