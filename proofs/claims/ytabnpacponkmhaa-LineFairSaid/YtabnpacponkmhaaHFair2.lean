/- The law LineFair: true of every script. Conditions: none. -/
import Derived.Test.YtabnpacponkmhaaHFair1
import Derived.Deep.DeepCutAuto
namespace Go.Proofs.Ytabnpacponkmhaa.H
open Go.RowKit Go.Deep Go.Proofs.YtabnpacponkmhaaW.PrintWords
set_option linter.unusedVariables false
set_option linter.unusedSimpArgs false
def stepL (m : List Int) (ok on : Int) : List Int := if ok = 1 then joined m on else if ok = 3 then m.erase on else m
/-- place, in a walk that only reads. -/
theorem place_q (A : Option Addr) (c : Nat) (l : List Int) (x : Int) (w : World) (hs : Sl encI 1 w A l) (n : Nat) :
    Calls Try.prog 9 #[.slice A l.length c, .int .i64 x] (w.drewN n) fun e w' => e = .returned (.int .i64 (ix l x)) ∧ w' = w.drewN n :=
  (place_c A c l x (w.drewN n) (hs.drewN n)).mono fun _ _ h => ⟨h.1, h.2.symm⟩
set_option maxHeartbeats 12800000 in
set_option maxRecDepth 100000 in
theorem lineFair_c (A : Option Addr) (c : Nat) (l : List OpT) (w : World) (hs : Sl encOp 3 w A l) :
    Calls Try.prog 3 #[.slice A l.length c] w fun e w' => e = .returned (.bool true) ∧ Below w.heap.size w w' := by
  by_cases hbig : 600 < l.length
  · have e1 : decide ((600 : Int) < (l.length : Int)) = true := by simp; omega
    clear hs
    go_enter Try.func3, Try.ntmps3
    go_wp2_with fail
    go_ret
    exact ⟨by simp, Below.refl _ _⟩
  · have e1 : decide ((600 : Int) < (l.length : Int)) = false := by simp; omega
    have hlen : l.length ≤ 600 := by omega
    have HS := Lib.hid hs
    clear hs hbig
    go_enter Try.func3, Try.ntmps3
    go_wp2_with fail
    refine (newLine_c w).mono ?_
    rintro e w1 ⟨rfl, hl1, hb1⟩
    have hf0 : Fair w w1 w.heap.size (.slice none 0 0) (.slice none 0 0) [] [] [] :=
      ⟨hb1, Own.nil _ _ _ _ _, Own.nil _ _ _ _ _, by simp [Value.ownBlock], _, hl1, fun k hk => ⟨by omega, by rw [hk]; exact hl1.lt, by simp [Value.ownBlock], by simp [Value.ownBlock]⟩⟩
    have HF0 := Lib.hid hf0
    clear hf0 hl1 hb1
    go_wp2_with fail
    go_loopg [4, 5, 6] l.length (fun gk v4 v5 v6 wr => ∃ (i : Nat) (m s : List Int), gk = l.length - i ∧ i ≤ l.length ∧ v6 = .int .i64 i ∧ Fair w wr w.heap.size v4 v5 m m s ∧ Sound m s i)
    case atStart => exact ⟨0, [], [], by omega, by omega, rfl, HF0.out, Sound.nil⟩
    case round =>
      obtain ⟨i, m, s, hg, hi, rfl, hf, hsd⟩ := hrel
      have HG := Lib.hid hg
      clear hg
      by_cases hlt : i < l.length
      · obtain ⟨⟨ok, on, o2⟩, hx⟩ := getElem?_of_lt hlt
        obtain ⟨b, o, rfl, hbl, hc⟩ := (HS.out.later hf.below).at hx
        have a0 : wr.cell? ⟨b, o + i * 3, none⟩ = some (.int .i64 ok) := by simpa using hc 0 _ rfl
        have a1 : wr.cell? ⟨b, o + i * 3 + 1, none⟩ = some (.int .i64 on) := by simpa using hc 1 _ rfl
        have a2 : wr.cell? ⟨b, o + i * 3 + 2, none⟩ = some (.bool o2) := by simpa using hc 2 _ rfl
        obtain ⟨A4, c4, rfl, h4c, h4s, h4n⟩ := hf.who.slice (fun x => (okI x).1)
        obtain ⟨A5, c5, rfl, h5c, h5s, h5n⟩ := hf.since.slice (fun x => (okI x).1)
        have hml : m.length ≤ 600 := by have := hsd.short; omega
        have P1 := Lib.hid (fun w' (hb : Below wr.heap.size wr w') => place_c A4 c4 m on w' (h4s.later hb))
        have HF := Lib.hid hf
        have HD := Lib.hid hsd
        have H4 := Lib.hid h4s
        clear hf hsd hc hx h4s h5s h4n h5n
        have hcase : (ok = 1 ∧ on ∉ m) ∨ (ok = 1 ∧ on ∈ m) ∨ (ok = 3 ∧ on ∈ m) ∨ (ok = 3 ∧ on ∉ m) ∨ (ok ≠ 1 ∧ ok ≠ 3) := by
          by_cases h1 : ok = 1
          · by_cases h2 : on ∈ m
            · exact .inr (.inl ⟨h1, h2⟩)
            · exact .inl ⟨h1, h2⟩
          · by_cases h3 : ok = 3
            · by_cases h2 : on ∈ m
              · exact .inr (.inr (.inl ⟨h3, h2⟩))
              · exact .inr (.inr (.inr (.inl ⟨h3, h2⟩)))
            · exact .inr (.inr (.inr (.inr ⟨h1, h3⟩)))
        obtain ⟨SL, hli, hSz, hcl⟩ := HF.out.line2
        have HX : Hid (∀ X : Obj, LineIs (wr.alloc X) w.heap.size SL m) := Lib.hid (fun X => hli.upd (T := fun _ => False) (Upd.alloc wr X) (fun _ _ h => h))
        have HSz := Lib.hid hSz
        have HCl := Lib.hid hcl
        have hb4 : ∀ k, (Value.slice A4 m.length c4).ownBlock = some k → k ≠ wr.heap.size := fun k hk => by have := (HF.out.who.block_lt hk).2; omega
        have hb5 : ∀ k, (Value.slice A5 s.length c5).ownBlock = some k → k ≠ wr.heap.size := fun k hk => by have := (HF.out.since.block_lt hk).2; omega
        have HB4 := Lib.hid hb4
        have HB5 := Lib.hid hb5
        have q0 : ∀ ok' : Int, (wr.alloc (Obj.cells #[.int .i64 ok', .int .i64 on, .bool o2] 27)).cell? ⟨wr.heap.size, 0, none⟩ = some (.int .i64 ok') := fun _ => (blk_cell (heap_alloc_new wr _) 0).trans rfl
        have q1 : ∀ ok' : Int, (wr.alloc (Obj.cells #[.int .i64 ok', .int .i64 on, .bool o2] 27)).cell? ⟨wr.heap.size, 1, none⟩ = some (.int .i64 on) := fun _ => (blk_cell (heap_alloc_new wr _) 1).trans rfl
        have Q0 := Lib.hid q0
        have Q1 := Lib.hid q1
        clear hli hSz hcl hb4 hb5 q0 q1
        go_upto_region 12 with (go_at_call 9; refine (P1.out _ ((Below.refl _ _).alloc (Nat.le_refl _) _)).mono ?_; rintro e w' ⟨rfl, rfl⟩)
        go_cut [58] (fun v58 wx => v58 = .bool false ∧ Fair w wx w.heap.size (.slice A4 m.length c4) (.slice A5 s.length c5) (stepL m ok on) m s ∧ wx.cell? ⟨wr.heap.size, 0, none⟩ = some (.int .i64 ok) ∧ wx.cell? ⟨wr.heap.size, 1, none⟩ = some (.int .i64 on))
        case first =>
         as_aux_lemma =>
          rcases hcase with ⟨rfl, hm⟩ | ⟨rfl, hm⟩ | ⟨rfl, hm⟩ | ⟨rfl, hm⟩ | ⟨h1, h3⟩
          · have e4 : decide (on ∉ m) = true := by simpa using hm
            have e7 : decide (ix m on < 0) = true := by rw [ix_none hm]; rfl
            go_wp2_with fail
            refine (join_c w.heap.size SL m on _ (HX.out _) (by omega)).mono ?_
            rintro e w2 ⟨rfl, hl2, hu2⟩
            have hno : ¬ SL wr.heap.size := fun h => Nat.lt_irrefl _ (HSz.out _ h)
            have r0 := hu2.cell (Q0.out _) hno
            have r1 := hu2.cell (Q1.out _) hno
            have f2 := HCl.out w2 _ (hl2.mono (fun k hk => by rcases hk with hk | hk; exact .inl hk; exact .inr (by rw [World.size_alloc] at hk; omega))) ((Upd.alloc wr _).trans hu2)
            have f3 : Fair w w2 w.heap.size (.slice A4 m.length c4) (.slice A5 s.length c5) (stepL m 1 on) m s := f2
            have F3 := Lib.hid f3
            have R0 := Lib.hid r0
            have R1 := Lib.hid r1
            clear hl2 hu2 hno f2 f3
            go_wp2_with fail
            go_meet
            exact ⟨rfl, F3.out, R0.out, R1.out⟩
          · have e4 : decide (on ∉ m) = false := by simpa using hm
            have e7 : decide (ix m on < 0) = false := decide_eq_false (by simp [ix, hm])
            go_wp2_with fail
            refine (join_c w.heap.size SL m on _ (HX.out _) (by omega)).mono ?_
            rintro e w2 ⟨rfl, hl2, hu2⟩
            have hno : ¬ SL wr.heap.size := fun h => Nat.lt_irrefl _ (HSz.out _ h)
            have r0 := hu2.cell (Q0.out _) hno
            have r1 := hu2.cell (Q1.out _) hno
            have f2 := HCl.out w2 _ (hl2.mono (fun k hk => by rcases hk with hk | hk; exact .inl hk; exact .inr (by rw [World.size_alloc] at hk; omega))) ((Upd.alloc wr _).trans hu2)
            have f3 : Fair w w2 w.heap.size (.slice A4 m.length c4) (.slice A5 s.length c5) (stepL m 1 on) m s := f2
            have F3 := Lib.hid f3
            have R0 := Lib.hid r0
            have R1 := Lib.hid r1
            clear hl2 hu2 hno f2 f3
            go_wp2_with fail
            go_meet
            exact ⟨rfl, F3.out, R0.out, R1.out⟩
          · have e4 : decide (on ∈ m) = true := by simpa using hm
            have e7 : decide (0 ≤ ix m on) = true := decide_eq_true (by simp [ix, hm])
            go_wp2_with fail
            refine (leave_c w.heap.size SL m on _ (HX.out _)).mono ?_
            rintro e w2 ⟨rfl, hl2, hu2⟩
            have hno : ¬ SL wr.heap.size := fun h => Nat.lt_irrefl _ (HSz.out _ h)
            have r0 := hu2.cell (Q0.out _) hno
            have r1 := hu2.cell (Q1.out _) hno
            have f2 := HCl.out w2 _ (hl2.mono (fun k hk => by exact .inl hk)) ((Upd.alloc wr _).trans hu2)
            have f3 : Fair w w2 w.heap.size (.slice A4 m.length c4) (.slice A5 s.length c5) (stepL m 3 on) m s := f2
            have F3 := Lib.hid f3
            have R0 := Lib.hid r0
            have R1 := Lib.hid r1
            clear hl2 hu2 hno f2 f3
            go_wp2_with fail
            go_meet
            exact ⟨rfl, F3.out, R0.out, R1.out⟩
          · have e4 : decide (on ∈ m) = false := by simpa using hm
            have e7 : decide (0 ≤ ix m on) = false := by rw [ix_none hm]; rfl
            go_wp2_with fail
            refine (leave_c w.heap.size SL m on _ (HX.out _)).mono ?_
            rintro e w2 ⟨rfl, hl2, hu2⟩
            have hno : ¬ SL wr.heap.size := fun h => Nat.lt_irrefl _ (HSz.out _ h)
            have r0 := hu2.cell (Q0.out _) hno
            have r1 := hu2.cell (Q1.out _) hno
            have f2 := HCl.out w2 _ (hl2.mono (fun k hk => by exact .inl hk)) ((Upd.alloc wr _).trans hu2)
            have f3 : Fair w w2 w.heap.size (.slice A4 m.length c4) (.slice A5 s.length c5) (stepL m 3 on) m s := f2
            have F3 := Lib.hid f3
            have R0 := Lib.hid r0
            have R1 := Lib.hid r1
            clear hl2 hu2 hno f2 f3
            go_wp2_with fail
            go_meet
            exact ⟨rfl, F3.out, R0.out, R1.out⟩
          · have e1 : (ok == 1) = false := by simpa using h1
            have e3 : (ok == 3) = false := by simpa using h3
            have f2 := HCl.out _ m ((HX.out (Obj.cells #[.int .i64 ok, .int .i64 on, .bool o2] 27)).mono (fun k hk => .inl hk)) (Upd.alloc wr _)
            have F3 : Hid (Fair w (wr.alloc (Obj.cells #[.int .i64 ok, .int .i64 on, .bool o2] 27)) w.heap.size (.slice A4 m.length c4) (.slice A5 s.length c5) (stepL m ok on) m s) := Lib.hid (by simp only [stepL, if_neg h1, if_neg h3]; exact f2)
            clear f2
            go_wp2_with fail
            go_meet
            exact ⟨rfl, F3.out, Q0.out _, Q1.out _⟩
        case rest =>
          obtain ⟨rfl, hF, hk0, hk1⟩ := hcut
          have F2 := Lib.hid hF
          clear hF a0 a1 a2 P1 H4 HX HSz HCl Q0 Q1
          go_upto_region 14 with fail
          go_cut [65] (fun v65 wx => v65 = .bool (decide (ok = 1 ∧ on ∉ m)) ∧ wx = wc)
          case first =>
           as_aux_lemma =>
            by_cases h1 : ok = 1
            · by_cases hm : on ∈ m
              · have e1 : (ok == 1) = true := by simpa using h1
                have e7 : decide (ix m on < 0) = false := decide_eq_false (by simp [ix, hm])
                have e9 : decide (ok = 1 ∧ on ∉ m) = false := decide_eq_false (fun h => h.2 hm)
                have E9 := Lib.hid e9
                clear e9 hm h1
                go_wp2_with fail
                go_meet
                exact ⟨congrArg Value.bool E9.out.symm, rfl⟩
              · have e1 : (ok == 1) = true := by simpa using h1
                have e7 : decide (ix m on < 0) = true := by rw [ix_none hm]; rfl
                have e9 : decide (ok = 1 ∧ on ∉ m) = true := decide_eq_true ⟨h1, hm⟩
                have E9 := Lib.hid e9
                clear e9 hm h1
                go_wp2_with fail
                go_meet
                exact ⟨congrArg Value.bool E9.out.symm, rfl⟩
            · have e1 : (ok == 1) = false := by simpa using h1
              have e9 : decide (ok = 1 ∧ on ∉ m) = false := decide_eq_false (fun h => h1 h.1)
              have E9 := Lib.hid e9
              clear e9 h1
              go_wp2_with fail
              go_meet
              exact ⟨congrArg Value.bool E9.out.symm, rfl⟩
          case rest =>
            obtain ⟨rfl, rfl⟩ := hcut
            by_cases hB : ok = 1 ∧ on ∉ m
            · have d1 : decide (ok = 1 ∧ on ∉ m) = true := decide_eq_true hB
              rw [d1]
              clear d1
              obtain ⟨rfl, hm⟩ := hB
              have e5 : stepL m 1 on = m ++ [on] := by simp [stepL, joined, hm]
              rw [e5] at F2
              have r0 := hk0
              have r1 := hk1
              clear e5 hk0 hk1
              go_wp2_with (at_builtin; refine wpList_app rfl (.tmp 66) (.tmp 69) rfl uSlInt infoInt rfl (by decide) (by decide) okI (.slice A4 m.length c4) m rfl (base := w.heap.size) ?c1 (some ⟨wc.heap.size, 0, none⟩) 1 [on] rfl ?c2 ?c3 ?c4 ?_)
              case c1 => exact F2.out.who.below ((Below.refl _ _).alloc (Nat.le_refl _) _)
              case c2 => exact Sl.one okI wc on _ rfl
              case c3 => (try simp only [List.length_singleton]); omega
              case c4 => have := F2.out.below.size; (try simp only [World.size_alloc]); omega
              intro v6 w3 ho3 hg3 ha3
              have f3 := (F2.out.later ((Below.refl _ _).alloc (Nat.le_refl _) _)).who' ho3 hg3 (by rw [World.size_alloc]; exact ha3)
              have t0 := cell_grown (cell_alloc (Obj.cells #[.int .i64 on] 3) r0) hg3 HB4.out
              have F3 := Lib.hid f3
              clear r0 r1 f3 ho3 hg3 ha3
              go_wp2_with (at_builtin; refine wpList_app rfl (.tmp 71) (.tmp 73) rfl uSlInt infoInt rfl (by decide) (by decide) okI (.slice A5 s.length c5) s rfl (base := w.heap.size) ?c1 (some ⟨w3.heap.size, 0, none⟩) 1 [(i : Int)] rfl ?c2 ?c3 ?c4 ?_)
              case c1 => exact F3.out.since.below ((Below.refl _ _).alloc (Nat.le_refl _) _)
              case c2 => exact Sl.one okI w3 (i : Int) _ rfl
              case c3 => have := HD.out.len; (try simp only [List.length_singleton]); omega
              case c4 => have := F3.out.below.size; (try simp only [World.size_alloc]); omega
              intro v7 w4 ho4 hg4 ha4
              have f4 := (F3.out.later ((Below.refl _ _).alloc (Nat.le_refl _) _)).since' ho4 hg4 (by rw [World.size_alloc]; exact ha4)
              have s0 := cell_grown (cell_alloc (Obj.cells #[.int .i64 (i : Int)] 3) t0) hg4 HB5.out
              have HT : Hid (∃ m' s', Fair w w4 w.heap.size v6 v7 m' m' s' ∧ Sound m' s' (i + 1)) := Lib.hid ⟨_, _, f4, HD.out.join hm⟩
              clear f4 ho4 hg4 ha4 t0
              go_wp2_with fail
              clear s0 F2 F3 hm
              clear HB4 HB5 HF HD h4c h5c hml
              as_aux_lemma =>
                obtain ⟨m', s', hf, hsd⟩ := HT.out
                clear HT
                have hml : m'.length ≤ 601 := by have := hsd.short; omega
                obtain ⟨A4', c4', hv4, h4c, h4s, h4n⟩ := hf.who.slice (fun x => (okI x).1)
                obtain ⟨A5', c5', hv5, h5c, h5s, h5n⟩ := hf.since.slice (fun x => (okI x).1)
                rw [hv4] at hf ⊢
                rw [hv5] at hf ⊢
                obtain ⟨SL, hli, hlf⟩ := hf.line_
                have hlen5 := hsd.len
                have HF := Lib.hid hf
                have HD := Lib.hid hsd
                have H4 := Lib.hid h4s
                have H5 := Lib.hid h5s
                have HL5 := Lib.hid hlen5
                refine (all_c w.heap.size SL m' _ hli (by omega)).mono ?_
                have HLI := Lib.hid hli
                clear hlf hli h4s h5s h4n h5n hf hsd hv4 hv5 hlen5
                rintro e w2 ⟨v9, rfl, ho9, hb2⟩
                obtain ⟨A9, c9, rfl, h9c, h9s, h9n⟩ := ho9.slice (fun x => (okI x).1)
                have H9 := Lib.hid h9s
                have HB2 := Lib.hid hb2
                have HL2 : LineIs w2 w.heap.size SL m' := HLI.out.upd (T := fun _ => False) (Upd.of_below hb2) (fun _ _ h => h)
                have HLB := Lib.hid HL2
                clear ho9 h9n hb2 HL2 h9s
                have HF2 := Lib.hid (HF.out.later HB2.out)
                rcases m' with _ | ⟨x0, mt⟩
                · go_wp2_with (go_at_call 13; refine (first_c _ _ _ _ HLB.out).mono ?_; rintro e w' ⟨rfl, rfl⟩)
                  go_loopg [12] 0 (fun gk v12 wr2 => gk = 0 ∧ v12 = .int .i64 0 ∧ wr2 = w2)
                  case atStart => exact ⟨rfl, rfl, rfl⟩
                  case round =>
                    obtain ⟨rfl, rfl, rfl⟩ := hrel
                    go_wp2
                    go_roundg (l.length - (i + 1))
                    case measure => have := HG.out; omega
                    case rel => exact ⟨i + 1, [], s', rfl, by omega, by go_num, HF2.out, HD.out⟩
                · have e5 : decide (x0 :: mt ≠ []) = true := by simp
                  obtain ⟨b9, o9, rfl, hb9, hc9⟩ := H9.out.at (i := 0) (x := x0) rfl
                  have d0 : w2.cell? ⟨b9, o9, none⟩ = some (.int .i64 x0) := by simpa using hc9 0 _ rfl
                  clear hc9
                  go_wp2_with (go_at_call 13; refine (first_c _ _ _ _ HLB.out).mono ?_; rintro e w' ⟨rfl, rfl⟩)
                  have hcn : mt.length + 1 ≤ c9 := by simpa using h9c
                  clear d0 e5 h9c
                  go_loopg [12] (mt.length + 1) (fun gk v12 wr2 => ∃ k : Nat, gk = mt.length + 1 - k ∧ k ≤ mt.length + 1 ∧ v12 = .int .i64 k ∧ Below w2.heap.size w2 wr2)
                  case atStart => exact ⟨0, by omega, by omega, rfl, Below.refl _ _⟩
                  case round =>
                    obtain ⟨k, hg, hk, rfl, hB⟩ := hrel
                    have HG2 := Lib.hid hg
                    clear hg
                    by_cases hlt2 : k < mt.length + 1
                    · obtain ⟨x, hx⟩ := getElem?_of_lt (l := x0 :: mt) (i := k) (by simpa using hlt2)
                      obtain ⟨b9', o9', hA9, hb9', hc⟩ := (H9.out.later hB).at hx
                      injection hA9 with hA9
                      injection hA9 with q1 q2
                      subst q1; subst q2
                      have p0 : wr.cell? ⟨b9, o9 + k, none⟩ = some (.int .i64 x) := by simpa using hc 0 _ rfl
                      have i0 : (0 : Int) ≤ (k : Int) := by omega
                      have i1 : (k : Int) ≤ (c9 : Int) := by omega
                      have Q1 := Lib.hid (place_q (some ⟨b9, o9, none⟩) c9 ((x0 :: mt).take k) x wr ((H9.out.later hB).take_ k))
                      have Q2 := Lib.hid (place_q A4' c4' (x0 :: mt) x wr ((H4.out.later HB2.out).later hB))
                      have hl1 : ((x0 :: mt).take k).length = k := by rw [List.length_take]; simp; omega
                      have hl2 : (x0 :: mt).length = mt.length + 1 := rfl
                      rw [hl1, HD.out.first hx] at Q1
                      rw [hl2, HD.out.place hx] at Q2
                      clear hl1 hl2 hc
                      have hx' := Lib.hid hx
                      clear hx
                      have HBB := Lib.hid hB
                      clear hB
                      rcases k with _ | k
                      · push_cast at Q1 Q2 i0 i1
                        have p0' : wr.cell? ⟨b9, o9, none⟩ = some (.int .i64 x) := by simpa using p0
                        clear p0
                        go_wp2_with fail
                        go_quiet (first | (go_at_call 9; with_reducible (refine Calls.quiet_of_same (Q1.out _))) | (go_at_call 9; with_reducible (refine Calls.quiet_of_same (Q2.out _))))
                        have hBn : Below w2.heap.size w2 (wr.drewN nq) := ⟨HBB.out.os, HBB.out.tape, HBB.out.output, HBB.out.size, HBB.out.block⟩
                        go_wp2
                        go_roundg (mt.length + 1 - (0 + 1))
                        case measure => have := HG2.out; omega
                        case rel => exact ⟨0 + 1, rfl, by omega, by go_num, hBn⟩
                      · have hl5 := HL5.out
                        obtain ⟨y, hy⟩ := getElem?_of_lt (l := x0 :: mt) (i := k) (by simp; omega)
                        obtain ⟨sk, hsk⟩ := getElem?_of_lt (l := s') (i := k) (by rw [hl5]; simp; omega)
                        obtain ⟨sx, hsx⟩ := getElem?_of_lt (l := s') (i := k + 1) (by rw [hl5]; simp; omega)
                        have e7 : decide (sx < sk) = false := decide_eq_false (by have := HD.out.rises hsk hsx; omega)
                        obtain ⟨b9', o9', hA9, _, hc⟩ := (H9.out.later HBB.out).at hy
                        injection hA9 with hA9
                        injection hA9 with q1 q2
                        subst q1; subst q2
                        have p1 : wr.cell? ⟨b9, o9 + k, none⟩ = some (.int .i64 y) := by simpa using hc 0 _ rfl
                        obtain ⟨b5, o5, rfl, hb5, hc5⟩ := ((H5.out.later HB2.out).later HBB.out).at hsk
                        have p2 : wr.cell? ⟨b5, o5 + k, none⟩ = some (.int .i64 sk) := by simpa using hc5 0 _ rfl
                        obtain ⟨b5', o5', hA5, _, hc5'⟩ := ((H5.out.later HB2.out).later HBB.out).at hsx
                        injection hA5 with hA5
                        injection hA5 with q1 q2
                        subst q1; subst q2
                        have p3 : wr.cell? ⟨b5, o5 + (k + 1), none⟩ = some (.int .i64 sx) := by simpa using hc5' 0 _ rfl
                        have Q3 := Lib.hid (place_q A4' c4' (x0 :: mt) y wr ((H4.out.later HB2.out).later HBB.out))
                        have hl2 : (x0 :: mt).length = mt.length + 1 := rfl
                        rw [hl2, HD.out.place hy] at Q3
                        rw [hl2] at hl5
                        have i2 : IntKind.i64.wrap (k : Int) = (k : Int) := IntWalk.i64_in _ (by omega)
                        have i3 : (k : Int) < (mt.length : Int) + 1 := by omega
                        have i4 : (k : Int) < (s'.length : Int) := by omega
                        have i5 : (k : Int) + 1 < (s'.length : Int) := by omega
                        have i6 : (0 : Int) ≤ (k : Int) := by omega
                        have i7 : decide ((0 : Int) < (k : Int) + 1) = true := decide_eq_true (by omega)
                        have i8 : decide ((k : Int) + 1 < 0) = false := decide_eq_false (by omega)
                        have i9 : (k : Int) + 1 < (mt.length : Int) + 1 := by omega
                        have i10 : (k : Int) < (mt.length : Int) := by omega
                        have i11 : (k : Int) + 1 ≤ (mt.length : Int) := by omega
                        have hml2 : mt.length ≤ 600 := by simpa using hml
                        have i12 : (0 : Int) ≤ (k : Int) + 1 := by omega
                        clear hc hc5 hc5' hsk hsx hy hl2 hl5
                        push_cast at Q1 Q2 i0 i1
                        go_wp2_with fail
                        go_quiet (first | (go_at_call 9; with_reducible (refine Calls.quiet_of_same (Q1.out _))) | (go_at_call 9; with_reducible (refine Calls.quiet_of_same (Q2.out _))) | (go_at_call 9; with_reducible (refine Calls.quiet_of_same (Q3.out _))))
                        have hBn : Below w2.heap.size w2 (wr.drewN nq) := ⟨HBB.out.os, HBB.out.tape, HBB.out.output, HBB.out.size, HBB.out.block⟩
                        go_wp2
                        go_roundg (mt.length + 1 - (k + 1 + 1))
                        case measure => have := HG2.out; omega
                        case rel => exact ⟨k + 1 + 1, rfl, by omega, by go_num, hBn⟩
                    · have hkk : k = mt.length + 1 := by omega
                      subst hkk
                      have HFF := Lib.hid (HF2.out.later hB)
                      clear hB
                      go_wp2
                      go_roundg (l.length - (i + 1))
                      case measure => have := HG.out; omega
                      case rel => exact ⟨i + 1, x0 :: mt, s', rfl, by omega, by go_num, HFF.out, HD.out⟩
            · have d1 : decide (ok = 1 ∧ on ∉ m) = false := decide_eq_false hB
              rw [d1]
              clear d1
              go_upto_region 17 with fail
              go_cut [81] (fun v81 wx => v81 = .bool (decide (ok = 3 ∧ on ∈ m)) ∧ wx = wc)
              case first =>
               as_aux_lemma =>
                by_cases h3 : ok = 3
                · by_cases hm : on ∈ m
                  · have e1 : (ok == 3) = true := by simpa using h3
                    have e7 : decide (0 ≤ ix m on) = true := decide_eq_true (by simp [ix, hm])
                    have e9 : decide (ok = 3 ∧ on ∈ m) = true := decide_eq_true ⟨h3, hm⟩
                    have E9 := Lib.hid e9
                    clear e9 hm h3 hB
                    go_wp2_with fail
                    go_meet
                    exact ⟨congrArg Value.bool E9.out.symm, rfl⟩
                  · have e1 : (ok == 3) = true := by simpa using h3
                    have e7 : decide (0 ≤ ix m on) = false := by rw [ix_none hm]; rfl
                    have e9 : decide (ok = 3 ∧ on ∈ m) = false := decide_eq_false (fun h => hm h.2)
                    have E9 := Lib.hid e9
                    clear e9 hm h3 hB
                    go_wp2_with fail
                    go_meet
                    exact ⟨congrArg Value.bool E9.out.symm, rfl⟩
                · have e1 : (ok == 3) = false := by simpa using h3
                  have e9 : decide (ok = 3 ∧ on ∈ m) = false := decide_eq_false (fun h => h3 h.1)
                  have E9 := Lib.hid e9
                  clear e9 h3 hB
                  go_wp2_with fail
                  go_meet
                  exact ⟨congrArg Value.bool E9.out.symm, rfl⟩
              case rest =>
                obtain ⟨rfl, rfl⟩ := hcut
                by_cases hB3 : ok = 3 ∧ on ∈ m
                · have d1 : decide (ok = 3 ∧ on ∈ m) = true := decide_eq_true hB3
                  rw [d1]
                  clear d1
                  obtain ⟨rfl, hm⟩ := hB3
                  have hkm : m.idxOf on < m.length := List.idxOf_lt_length_of_mem hm
                  have e5 : stepL m 3 on = m.take (m.idxOf on) ++ m.drop (m.idxOf on + 1) := by
                    show m.erase on = _
                    rw [List.erase_eq_eraseIdx_of_idxOf rfl, List.eraseIdx_eq_take_drop_succ]
                  have e6 : ix m on = (m.idxOf on : Int) := by simp [ix, hm]
                  rw [e6]
                  generalize m.idxOf on = kx at e5 e6 hkm
                  rw [e5] at F2
                  obtain ⟨n, hn⟩ : ∃ n, m.length = n + 1 := ⟨m.length - 1, by omega⟩
                  have hn5 : s.length = n + 1 := by rw [HD.out.len]; exact hn
                  obtain ⟨A4x, c4x, hv4, hc4, hs4, hn4⟩ := HF.out.who.slice (fun x => (okI x).1)
                  obtain ⟨A5x, c5x, hv5, hc5, hs5, hn5'⟩ := HF.out.since.slice (fun x => (okI x).1)
                  injection hv4 with j1 j2 j3
                  subst j1; subst j3
                  injection hv5 with j1 j2 j3
                  subst j1; subst j3
                  obtain ⟨b4, rfl, _, _⟩ := hn4 (by rintro rfl; simp at hn)
                  obtain ⟨b5, rfl, _, _⟩ := hn5' (by rintro rfl; simp at hn5)
                  have HN4 := Lib.hid (show m.length = n + 1 from hn)
                  have HN5 := Lib.hid (show s.length = n + 1 from hn5)
                  rw [hn] at hkm hc4 h4c
                  rw [hn5] at hc5 h5c
                  rw [hn, hn5]
                  clear hn hn5 hn4 hn5' hs4 hs5 e6 hk0 hk1 hB e5
                  have hd4 := tail_sl (own_sl F2.out.who) (by rw [HN4.out]; exact hkm) (by rw [HN4.out]; exact hc4)
                  have HD4 := Lib.hid hd4
                  clear hd4
                  have i1 : (n : Int) + 1 ≤ (c4 : Int) := by omega
                  have i2 : (0 : Int) ≤ (n : Int) + 1 := by omega
                  have i3 : (kx : Int) + 1 ≤ (n : Int) + 1 := by omega
                  have i4 : (0 : Int) ≤ (kx : Int) + 1 := by omega
                  have i5 : (0 : Int) ≤ (kx : Int) := by omega
                  have i6 : (kx : Int) ≤ (kx : Int) + 1 := by omega
                  have i7 : (kx : Int) ≤ (c4 : Int) := by omega
                  have i8 : (kx : Int) ≤ (c5 : Int) := by omega
                  have i9 : (n : Int) + 1 ≤ (c5 : Int) := by omega
                  have hn600 : n ≤ 600 := by have := HN4.out; omega
                  have i10 : IntKind.i64.wrap ((kx : Int) + 1) = (kx : Int) + 1 := IntWalk.i64_in _ (by omega)
                  have z2 : kx + (n + 1 - (kx + 1)) = n := by omega
                  have z4 : kx + (n - kx) = n := by omega
                  have Z1 : Hid (kx + (m.drop (kx + 1)).length = n) := Lib.hid (by have := HN4.out; simp; omega)
                  have Z5 : Hid ((m.drop (kx + 1)).length = n - kx) := Lib.hid (by have := HN4.out; simp; omega)
                  have Z1s : Hid (kx + (s.drop (kx + 1)).length = n) := Lib.hid (by have := HN5.out; simp; omega)
                  have Z5s : Hid ((s.drop (kx + 1)).length = n - kx) := Lib.hid (by have := HN5.out; simp; omega)
                  go_wp2_with fail
                  go_region_law (refine step_app_room rfl (.tmp 84) (.tmp 88) rfl uSlInt infoInt (by decide) okI b4 c4 kx m (by simp [Act.eval, Act.put]) F2.out.who (by have := HN4.out; omega) (if c4 = kx + 1 then some ⟨b4, 0, none⟩ else some ⟨b4, kx + 1, none⟩) (c4 - (kx + 1)) (m.drop (kx + 1)) (by simp [Act.eval, Act.put, Z5.out]) HD4.out (by rw [Z5.out]; omega) ?_; intro w3 hO3 hG3 hZ3)
                  generalize (if c4 = kx + 1 then (some ⟨b4, 0, none⟩ : Option Addr) else some ⟨b4, kx + 1, none⟩) = Ad4
                  rw [Z1.out] at hO3
                  have f3 := (F2.out.later ((Below.refl _ _).drew)).who' hO3 hG3 (.inl rfl)
                  have F3 := Lib.hid f3
                  have hd5 := tail_sl (own_sl f3.since) (by rw [HN5.out]; exact hkm) (by rw [HN5.out]; exact hc5)
                  have HD5 := Lib.hid hd5
                  clear hO3 hG3 hZ3 f3 hd5
                  go_wp2_with fail
                  go_region_law (refine step_app_room rfl (.tmp 92) (.tmp 96) rfl uSlInt infoInt (by decide) okI b5 c5 kx s (by simp [Act.eval, Act.put]) F3.out.since (by have := HN5.out; omega) (if c5 = kx + 1 then some ⟨b5, 0, none⟩ else some ⟨b5, kx + 1, none⟩) (c5 - (kx + 1)) (s.drop (kx + 1)) (by simp [Act.eval, Act.put, Z5s.out]) HD5.out (by rw [Z5s.out]; omega) ?_; intro w4 hO4 hG4 hZ4)
                  generalize (if c5 = kx + 1 then (some ⟨b5, 0, none⟩ : Option Addr) else some ⟨b5, kx + 1, none⟩) = Ad5
                  rw [Z1s.out] at hO4
                  have f4 := (F3.out.later ((Below.refl _ _).drew)).since' hO4 hG4 (.inl rfl)
                  have HT : Hid (∃ m' s', Fair w w4 w.heap.size (.slice (some ⟨b4, 0, none⟩) n c4) (.slice (some ⟨b5, 0, none⟩) n c5) m' m' s' ∧ Sound m' s' (i + 1)) := Lib.hid ⟨_, _, f4, HD.out.leave⟩
                  clear hO4 hG4 hZ4 f4
                  go_wp2_with fail
                  rw [show kx + (m.length - (kx + 1)) = n from by have := HN4.out; omega, show kx + (s.length - (kx + 1)) = n from by have := HN5.out; omega]
                  clear hm i1 i2 i3 i4 i5 i6 i7 i8 i9 hn600 i10 z2 z4 Z1 Z5 Z1s Z5s HN4 HN5 F2 F3 HD4 HD5 hkm hc4 hc5
                  clear HB4 HB5 HF HD h4c h5c hml
                  as_aux_lemma =>
                    obtain ⟨m', s', hf, hsd⟩ := HT.out
                    clear HT
                    have hml : m'.length ≤ 601 := by have := hsd.short; omega
                    obtain ⟨A4', c4', hv4, h4c, h4s, h4n⟩ := hf.who.slice (fun x => (okI x).1)
                    obtain ⟨A5', c5', hv5, h5c, h5s, h5n⟩ := hf.since.slice (fun x => (okI x).1)
                    rw [hv4] at hf ⊢
                    rw [hv5] at hf ⊢
                    obtain ⟨SL, hli, hlf⟩ := hf.line_
                    have hlen5 := hsd.len
                    have HF := Lib.hid hf
                    have HD := Lib.hid hsd
                    have H4 := Lib.hid h4s
                    have H5 := Lib.hid h5s
                    have HL5 := Lib.hid hlen5
                    refine (all_c w.heap.size SL m' _ hli (by omega)).mono ?_
                    have HLI := Lib.hid hli
                    clear hlf hli h4s h5s h4n h5n hf hsd hv4 hv5 hlen5
                    rintro e w2 ⟨v9, rfl, ho9, hb2⟩
                    obtain ⟨A9, c9, rfl, h9c, h9s, h9n⟩ := ho9.slice (fun x => (okI x).1)
                    have H9 := Lib.hid h9s
                    have HB2 := Lib.hid hb2
                    have HL2 : LineIs w2 w.heap.size SL m' := HLI.out.upd (T := fun _ => False) (Upd.of_below hb2) (fun _ _ h => h)
                    have HLB := Lib.hid HL2
                    clear ho9 h9n hb2 HL2 h9s
                    have HF2 := Lib.hid (HF.out.later HB2.out)
                    rcases m' with _ | ⟨x0, mt⟩
                    · go_wp2_with (go_at_call 13; refine (first_c _ _ _ _ HLB.out).mono ?_; rintro e w' ⟨rfl, rfl⟩)
                      go_loopg [12] 0 (fun gk v12 wr2 => gk = 0 ∧ v12 = .int .i64 0 ∧ wr2 = w2)
                      case atStart => exact ⟨rfl, rfl, rfl⟩
                      case round =>
                        obtain ⟨rfl, rfl, rfl⟩ := hrel
                        go_wp2
                        go_roundg (l.length - (i + 1))
                        case measure => have := HG.out; omega
                        case rel => exact ⟨i + 1, [], s', rfl, by omega, by go_num, HF2.out, HD.out⟩
                    · have e5 : decide (x0 :: mt ≠ []) = true := by simp
                      obtain ⟨b9, o9, rfl, hb9, hc9⟩ := H9.out.at (i := 0) (x := x0) rfl
                      have d0 : w2.cell? ⟨b9, o9, none⟩ = some (.int .i64 x0) := by simpa using hc9 0 _ rfl
                      clear hc9
                      go_wp2_with (go_at_call 13; refine (first_c _ _ _ _ HLB.out).mono ?_; rintro e w' ⟨rfl, rfl⟩)
                      have hcn : mt.length + 1 ≤ c9 := by simpa using h9c
                      clear d0 e5 h9c
                      go_loopg [12] (mt.length + 1) (fun gk v12 wr2 => ∃ k : Nat, gk = mt.length + 1 - k ∧ k ≤ mt.length + 1 ∧ v12 = .int .i64 k ∧ Below w2.heap.size w2 wr2)
                      case atStart => exact ⟨0, by omega, by omega, rfl, Below.refl _ _⟩
                      case round =>
                        obtain ⟨k, hg, hk, rfl, hB⟩ := hrel
                        have HG2 := Lib.hid hg
                        clear hg
                        by_cases hlt2 : k < mt.length + 1
                        · obtain ⟨x, hx⟩ := getElem?_of_lt (l := x0 :: mt) (i := k) (by simpa using hlt2)
                          obtain ⟨b9', o9', hA9, hb9', hc⟩ := (H9.out.later hB).at hx
                          injection hA9 with hA9
                          injection hA9 with q1 q2
                          subst q1; subst q2
                          have p0 : wr.cell? ⟨b9, o9 + k, none⟩ = some (.int .i64 x) := by simpa using hc 0 _ rfl
                          have i0 : (0 : Int) ≤ (k : Int) := by omega
                          have i1 : (k : Int) ≤ (c9 : Int) := by omega
                          have Q1 := Lib.hid (place_q (some ⟨b9, o9, none⟩) c9 ((x0 :: mt).take k) x wr ((H9.out.later hB).take_ k))
                          have Q2 := Lib.hid (place_q A4' c4' (x0 :: mt) x wr ((H4.out.later HB2.out).later hB))
                          have hl1 : ((x0 :: mt).take k).length = k := by rw [List.length_take]; simp; omega
                          have hl2 : (x0 :: mt).length = mt.length + 1 := rfl
                          rw [hl1, HD.out.first hx] at Q1
                          rw [hl2, HD.out.place hx] at Q2
                          clear hl1 hl2 hc
                          have hx' := Lib.hid hx
                          clear hx
                          have HBB := Lib.hid hB
                          clear hB
                          rcases k with _ | k
                          · push_cast at Q1 Q2 i0 i1
                            have p0' : wr.cell? ⟨b9, o9, none⟩ = some (.int .i64 x) := by simpa using p0
                            clear p0
                            go_wp2_with fail
                            go_quiet (first | (go_at_call 9; with_reducible (refine Calls.quiet_of_same (Q1.out _))) | (go_at_call 9; with_reducible (refine Calls.quiet_of_same (Q2.out _))))
                            have hBn : Below w2.heap.size w2 (wr.drewN nq) := ⟨HBB.out.os, HBB.out.tape, HBB.out.output, HBB.out.size, HBB.out.block⟩
                            go_wp2
                            go_roundg (mt.length + 1 - (0 + 1))
                            case measure => have := HG2.out; omega
                            case rel => exact ⟨0 + 1, rfl, by omega, by go_num, hBn⟩
                          · have hl5 := HL5.out
                            obtain ⟨y, hy⟩ := getElem?_of_lt (l := x0 :: mt) (i := k) (by simp; omega)
                            obtain ⟨sk, hsk⟩ := getElem?_of_lt (l := s') (i := k) (by rw [hl5]; simp; omega)
                            obtain ⟨sx, hsx⟩ := getElem?_of_lt (l := s') (i := k + 1) (by rw [hl5]; simp; omega)
                            have e7 : decide (sx < sk) = false := decide_eq_false (by have := HD.out.rises hsk hsx; omega)
                            obtain ⟨b9', o9', hA9, _, hc⟩ := (H9.out.later HBB.out).at hy
                            injection hA9 with hA9
                            injection hA9 with q1 q2
                            subst q1; subst q2
                            have p1 : wr.cell? ⟨b9, o9 + k, none⟩ = some (.int .i64 y) := by simpa using hc 0 _ rfl
                            obtain ⟨b5, o5, rfl, hb5, hc5⟩ := ((H5.out.later HB2.out).later HBB.out).at hsk
                            have p2 : wr.cell? ⟨b5, o5 + k, none⟩ = some (.int .i64 sk) := by simpa using hc5 0 _ rfl
                            obtain ⟨b5', o5', hA5, _, hc5'⟩ := ((H5.out.later HB2.out).later HBB.out).at hsx
                            injection hA5 with hA5
                            injection hA5 with q1 q2
                            subst q1; subst q2
                            have p3 : wr.cell? ⟨b5, o5 + (k + 1), none⟩ = some (.int .i64 sx) := by simpa using hc5' 0 _ rfl
                            have Q3 := Lib.hid (place_q A4' c4' (x0 :: mt) y wr ((H4.out.later HB2.out).later HBB.out))
                            have hl2 : (x0 :: mt).length = mt.length + 1 := rfl
                            rw [hl2, HD.out.place hy] at Q3
                            rw [hl2] at hl5
                            have i2 : IntKind.i64.wrap (k : Int) = (k : Int) := IntWalk.i64_in _ (by omega)
                            have i3 : (k : Int) < (mt.length : Int) + 1 := by omega
                            have i4 : (k : Int) < (s'.length : Int) := by omega
                            have i5 : (k : Int) + 1 < (s'.length : Int) := by omega
                            have i6 : (0 : Int) ≤ (k : Int) := by omega
                            have i7 : decide ((0 : Int) < (k : Int) + 1) = true := decide_eq_true (by omega)
                            have i8 : decide ((k : Int) + 1 < 0) = false := decide_eq_false (by omega)
                            have i9 : (k : Int) + 1 < (mt.length : Int) + 1 := by omega
                            have i10 : (k : Int) < (mt.length : Int) := by omega
                            have i11 : (k : Int) + 1 ≤ (mt.length : Int) := by omega
                            have hml2 : mt.length ≤ 600 := by simpa using hml
                            have i12 : (0 : Int) ≤ (k : Int) + 1 := by omega
                            clear hc hc5 hc5' hsk hsx hy hl2 hl5
                            push_cast at Q1 Q2 i0 i1
                            go_wp2_with fail
                            go_quiet (first | (go_at_call 9; with_reducible (refine Calls.quiet_of_same (Q1.out _))) | (go_at_call 9; with_reducible (refine Calls.quiet_of_same (Q2.out _))) | (go_at_call 9; with_reducible (refine Calls.quiet_of_same (Q3.out _))))
                            have hBn : Below w2.heap.size w2 (wr.drewN nq) := ⟨HBB.out.os, HBB.out.tape, HBB.out.output, HBB.out.size, HBB.out.block⟩
                            go_wp2
                            go_roundg (mt.length + 1 - (k + 1 + 1))
                            case measure => have := HG2.out; omega
                            case rel => exact ⟨k + 1 + 1, rfl, by omega, by go_num, hBn⟩
                        · have hkk : k = mt.length + 1 := by omega
                          subst hkk
                          have HFF := Lib.hid (HF2.out.later hB)
                          clear hB
                          go_wp2
                          go_roundg (l.length - (i + 1))
                          case measure => have := HG.out; omega
                          case rel => exact ⟨i + 1, x0 :: mt, s', rfl, by omega, by go_num, HFF.out, HD.out⟩
                · have d1 : decide (ok = 3 ∧ on ∈ m) = false := decide_eq_false hB3
                  rw [d1]
                  clear d1
                  have e5 : stepL m ok on = m := by
                    by_cases h1 : ok = 1
                    · have : on ∈ m := Classical.byContradiction (fun h => hB ⟨h1, h⟩)
                      simp [stepL, joined, h1, this]
                    · by_cases h3 : ok = 3
                      · have : on ∉ m := fun h => hB3 ⟨h3, h⟩
                        simp [stepL, h1, h3, List.erase_of_not_mem this]
                      · simp [stepL, h1, h3]
                  rw [e5] at F2
                  have HT : Hid (∃ m' s', Fair w wc w.heap.size (.slice A4 m.length c4) (.slice A5 s.length c5) m' m' s' ∧ Sound m' s' (i + 1)) := Lib.hid ⟨_, _, F2.out, HD.out.next⟩
                  clear e5 hB hB3 hk0 hk1 F2
                  go_wp2_with fail
                  clear HB4 HB5 HF HD h4c h5c hml
                  as_aux_lemma =>
                    obtain ⟨m', s', hf, hsd⟩ := HT.out
                    clear HT
                    have hml : m'.length ≤ 601 := by have := hsd.short; omega
                    obtain ⟨A4', c4', hv4, h4c, h4s, h4n⟩ := hf.who.slice (fun x => (okI x).1)
                    obtain ⟨A5', c5', hv5, h5c, h5s, h5n⟩ := hf.since.slice (fun x => (okI x).1)
                    rw [hv4] at hf ⊢
                    rw [hv5] at hf ⊢
                    obtain ⟨SL, hli, hlf⟩ := hf.line_
                    have hlen5 := hsd.len
                    have HF := Lib.hid hf
                    have HD := Lib.hid hsd
                    have H4 := Lib.hid h4s
                    have H5 := Lib.hid h5s
                    have HL5 := Lib.hid hlen5
                    refine (all_c w.heap.size SL m' _ hli (by omega)).mono ?_
                    have HLI := Lib.hid hli
                    clear hlf hli h4s h5s h4n h5n hf hsd hv4 hv5 hlen5
                    rintro e w2 ⟨v9, rfl, ho9, hb2⟩
                    obtain ⟨A9, c9, rfl, h9c, h9s, h9n⟩ := ho9.slice (fun x => (okI x).1)
                    have H9 := Lib.hid h9s
                    have HB2 := Lib.hid hb2
                    have HL2 : LineIs w2 w.heap.size SL m' := HLI.out.upd (T := fun _ => False) (Upd.of_below hb2) (fun _ _ h => h)
                    have HLB := Lib.hid HL2
                    clear ho9 h9n hb2 HL2 h9s
                    have HF2 := Lib.hid (HF.out.later HB2.out)
                    rcases m' with _ | ⟨x0, mt⟩
                    · go_wp2_with (go_at_call 13; refine (first_c _ _ _ _ HLB.out).mono ?_; rintro e w' ⟨rfl, rfl⟩)
                      go_loopg [12] 0 (fun gk v12 wr2 => gk = 0 ∧ v12 = .int .i64 0 ∧ wr2 = w2)
                      case atStart => exact ⟨rfl, rfl, rfl⟩
                      case round =>
                        obtain ⟨rfl, rfl, rfl⟩ := hrel
                        go_wp2
                        go_roundg (l.length - (i + 1))
                        case measure => have := HG.out; omega
                        case rel => exact ⟨i + 1, [], s', rfl, by omega, by go_num, HF2.out, HD.out⟩
                    · have e5 : decide (x0 :: mt ≠ []) = true := by simp
                      obtain ⟨b9, o9, rfl, hb9, hc9⟩ := H9.out.at (i := 0) (x := x0) rfl
                      have d0 : w2.cell? ⟨b9, o9, none⟩ = some (.int .i64 x0) := by simpa using hc9 0 _ rfl
                      clear hc9
                      go_wp2_with (go_at_call 13; refine (first_c _ _ _ _ HLB.out).mono ?_; rintro e w' ⟨rfl, rfl⟩)
                      have hcn : mt.length + 1 ≤ c9 := by simpa using h9c
                      clear d0 e5 h9c
                      go_loopg [12] (mt.length + 1) (fun gk v12 wr2 => ∃ k : Nat, gk = mt.length + 1 - k ∧ k ≤ mt.length + 1 ∧ v12 = .int .i64 k ∧ Below w2.heap.size w2 wr2)
                      case atStart => exact ⟨0, by omega, by omega, rfl, Below.refl _ _⟩
                      case round =>
                        obtain ⟨k, hg, hk, rfl, hB⟩ := hrel
                        have HG2 := Lib.hid hg
                        clear hg
                        by_cases hlt2 : k < mt.length + 1
                        · obtain ⟨x, hx⟩ := getElem?_of_lt (l := x0 :: mt) (i := k) (by simpa using hlt2)
                          obtain ⟨b9', o9', hA9, hb9', hc⟩ := (H9.out.later hB).at hx
                          injection hA9 with hA9
                          injection hA9 with q1 q2
                          subst q1; subst q2
                          have p0 : wr.cell? ⟨b9, o9 + k, none⟩ = some (.int .i64 x) := by simpa using hc 0 _ rfl
                          have i0 : (0 : Int) ≤ (k : Int) := by omega
                          have i1 : (k : Int) ≤ (c9 : Int) := by omega
                          have Q1 := Lib.hid (place_q (some ⟨b9, o9, none⟩) c9 ((x0 :: mt).take k) x wr ((H9.out.later hB).take_ k))
                          have Q2 := Lib.hid (place_q A4' c4' (x0 :: mt) x wr ((H4.out.later HB2.out).later hB))
                          have hl1 : ((x0 :: mt).take k).length = k := by rw [List.length_take]; simp; omega
                          have hl2 : (x0 :: mt).length = mt.length + 1 := rfl
                          rw [hl1, HD.out.first hx] at Q1
                          rw [hl2, HD.out.place hx] at Q2
                          clear hl1 hl2 hc
                          have hx' := Lib.hid hx
                          clear hx
                          have HBB := Lib.hid hB
                          clear hB
                          rcases k with _ | k
                          · push_cast at Q1 Q2 i0 i1
                            have p0' : wr.cell? ⟨b9, o9, none⟩ = some (.int .i64 x) := by simpa using p0
                            clear p0
                            go_wp2_with fail
                            go_quiet (first | (go_at_call 9; with_reducible (refine Calls.quiet_of_same (Q1.out _))) | (go_at_call 9; with_reducible (refine Calls.quiet_of_same (Q2.out _))))
                            have hBn : Below w2.heap.size w2 (wr.drewN nq) := ⟨HBB.out.os, HBB.out.tape, HBB.out.output, HBB.out.size, HBB.out.block⟩
                            go_wp2
                            go_roundg (mt.length + 1 - (0 + 1))
                            case measure => have := HG2.out; omega
                            case rel => exact ⟨0 + 1, rfl, by omega, by go_num, hBn⟩
                          · have hl5 := HL5.out
                            obtain ⟨y, hy⟩ := getElem?_of_lt (l := x0 :: mt) (i := k) (by simp; omega)
                            obtain ⟨sk, hsk⟩ := getElem?_of_lt (l := s') (i := k) (by rw [hl5]; simp; omega)
                            obtain ⟨sx, hsx⟩ := getElem?_of_lt (l := s') (i := k + 1) (by rw [hl5]; simp; omega)
                            have e7 : decide (sx < sk) = false := decide_eq_false (by have := HD.out.rises hsk hsx; omega)
                            obtain ⟨b9', o9', hA9, _, hc⟩ := (H9.out.later HBB.out).at hy
                            injection hA9 with hA9
                            injection hA9 with q1 q2
                            subst q1; subst q2
                            have p1 : wr.cell? ⟨b9, o9 + k, none⟩ = some (.int .i64 y) := by simpa using hc 0 _ rfl
                            obtain ⟨b5, o5, rfl, hb5, hc5⟩ := ((H5.out.later HB2.out).later HBB.out).at hsk
                            have p2 : wr.cell? ⟨b5, o5 + k, none⟩ = some (.int .i64 sk) := by simpa using hc5 0 _ rfl
                            obtain ⟨b5', o5', hA5, _, hc5'⟩ := ((H5.out.later HB2.out).later HBB.out).at hsx
                            injection hA5 with hA5
                            injection hA5 with q1 q2
                            subst q1; subst q2
                            have p3 : wr.cell? ⟨b5, o5 + (k + 1), none⟩ = some (.int .i64 sx) := by simpa using hc5' 0 _ rfl
                            have Q3 := Lib.hid (place_q A4' c4' (x0 :: mt) y wr ((H4.out.later HB2.out).later HBB.out))
                            have hl2 : (x0 :: mt).length = mt.length + 1 := rfl
                            rw [hl2, HD.out.place hy] at Q3
                            rw [hl2] at hl5
                            have i2 : IntKind.i64.wrap (k : Int) = (k : Int) := IntWalk.i64_in _ (by omega)
                            have i3 : (k : Int) < (mt.length : Int) + 1 := by omega
                            have i4 : (k : Int) < (s'.length : Int) := by omega
                            have i5 : (k : Int) + 1 < (s'.length : Int) := by omega
                            have i6 : (0 : Int) ≤ (k : Int) := by omega
                            have i7 : decide ((0 : Int) < (k : Int) + 1) = true := decide_eq_true (by omega)
                            have i8 : decide ((k : Int) + 1 < 0) = false := decide_eq_false (by omega)
                            have i9 : (k : Int) + 1 < (mt.length : Int) + 1 := by omega
                            have i10 : (k : Int) < (mt.length : Int) := by omega
                            have i11 : (k : Int) + 1 ≤ (mt.length : Int) := by omega
                            have hml2 : mt.length ≤ 600 := by simpa using hml
                            have i12 : (0 : Int) ≤ (k : Int) + 1 := by omega
                            clear hc hc5 hc5' hsk hsx hy hl2 hl5
                            push_cast at Q1 Q2 i0 i1
                            go_wp2_with fail
                            go_quiet (first | (go_at_call 9; with_reducible (refine Calls.quiet_of_same (Q1.out _))) | (go_at_call 9; with_reducible (refine Calls.quiet_of_same (Q2.out _))) | (go_at_call 9; with_reducible (refine Calls.quiet_of_same (Q3.out _))))
                            have hBn : Below w2.heap.size w2 (wr.drewN nq) := ⟨HBB.out.os, HBB.out.tape, HBB.out.output, HBB.out.size, HBB.out.block⟩
                            go_wp2
                            go_roundg (mt.length + 1 - (k + 1 + 1))
                            case measure => have := HG2.out; omega
                            case rel => exact ⟨k + 1 + 1, rfl, by omega, by go_num, hBn⟩
                        · have hkk : k = mt.length + 1 := by omega
                          subst hkk
                          have HFF := Lib.hid (HF2.out.later hB)
                          clear hB
                          go_wp2
                          go_roundg (l.length - (i + 1))
                          case measure => have := HG.out; omega
                          case rel => exact ⟨i + 1, x0 :: mt, s', rfl, by omega, by go_num, HFF.out, HD.out⟩
      · have hii : i = l.length := by omega
        subst hii
        have hfin := hf.below
        clear hf hsd
        have HFin := Lib.hid hfin
        clear hfin
        go_wp2
        go_ret
        exact ⟨by simp, HFin.out⟩
end Go.Proofs.Ytabnpacponkmhaa.H
