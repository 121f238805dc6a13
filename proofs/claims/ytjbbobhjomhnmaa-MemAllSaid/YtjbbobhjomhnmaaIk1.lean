/- Layer 1's functions that memtables call: charge, Weight, Check, CheckBatch, Entries. Conditions: sizes. -/
import Derived.Test.YtjbbobhjomhnmaaSkB
import Derived.OwnWalk
import Derived.Deep.AppendLies
namespace Go.Proofs.Ytjbbobhjomhnmaa.H
open Go.RowKit Go.Deep Go.Proofs.YtjbbobhjomhnmaaW.PrintWords
set_option linter.unusedVariables false
set_option linter.unusedSimpArgs false
abbrev Wri := ByteArray × Bool × ByteArray
def encW (e : Wri) : List Value := [.string e.1, .bool e.2.1, .string e.2.2]
/-- What an entry, a write weighs. -/
def wt (k : ByteArray) (d : Bool) (v : ByteArray) : Int := 2 * (k.size : Int) + 448 + (if d then 0 else (v.size : Int))
theorem charge_c (k : ByteArray) (d : Bool) (v : ByteArray) (hk : k.size ≤ 140737488351232) (hv : v.size ≤ 140737488351232) (w : World) :
    Calls Try.prog 113 #[.string k, .bool d, .string v] w fun e w' => e = .returned (.int .i64 (wt k d v)) ∧ w = w' := by
  cases d
  · go_enter Try.func113, Try.ntmps113
    go_wp2
    go_ret
    exact ⟨by simp [wt], rfl⟩
  · go_enter Try.func113, Try.ntmps113
    go_wp2
    go_ret
    exact ⟨by simp [wt], rfl⟩
theorem weight_c (k : ByteArray) (m : Int) (d : Bool) (v : ByteArray) (hk : k.size ≤ 140737488351232) (hv : v.size ≤ 140737488351232) (w : World) :
    Calls Try.prog 91 #[.agg #[.string k, .int .u64 m, .bool d, .string v]] w fun e w' => e = .returned (.int .i64 (wt k d v)) ∧ Below w.heap.size w w' := by
  go_enter Try.func91, Try.ntmps91
  go_wp2_with (go_at_call 113; refine (charge_c _ _ _ hk hv _).mono ?_; rintro e w' ⟨rfl, rfl⟩)
  go_ret
  exact ⟨rfl, (Below.refl _ _).alloc (Nat.le_refl _) _⟩
/-- The error of a key. -/
def chk (k : ByteArray) : Int := if k.size = 0 then 10 else if 64 < k.size then 11 else 0
theorem toList_len (s : ByteArray) : s.toList.length = s.size := by rw [ByteArray.toList_eq, Array.length_toList]; rfl
theorem check_c (k : ByteArray) (w : World) : Calls Try.prog 112 #[.string k] w fun e w' => e = .returned (.int .i64 (chk k)) ∧ w = w' := by
  have hl := toList_len k
  have HL := Lib.hid hl
  clear hl
  by_cases h : k.size = 0
  · have h1 : k.toList.isEmpty = true := by rw [List.isEmpty_iff]; exact List.eq_nil_of_length_eq_zero (by rw [HL.out]; exact h)
    have h2 : k.toList = [] := by simpa using h1
    have H := Lib.hid h
    clear h
    go_enter Try.func112, Try.ntmps112
    go_wp2
    go_ret
    exact ⟨by simp [chk, H.out], rfl⟩
  · have h2 : ¬ k.toList = [] := by intro e; rw [e] at HL; exact h HL.out.symm
    have h1 : k.toList.isEmpty = false := by simpa using h2
    by_cases h3 : 64 < k.size
    · go_enter Try.func112, Try.ntmps112
      go_wp2
      go_ret
      exact ⟨by simp [chk, h, h3], rfl⟩
    · go_enter Try.func112, Try.ntmps112
      go_wp2
      go_ret
      exact ⟨by simp [chk, h, h3], rfl⟩
def chkW (x : Wri) : Int := if chk x.1 = 0 then (if x.2.1 then 0 else if 512 < x.2.2.size then 12 else 0) else chk x.1
def firstE : List Wri → Int
  | [] => 0
  | x :: l => if chkW x = 0 then firstE l else chkW x
def chkB (l : List Wri) : Int := if 16 < l.length then 13 else firstE l
theorem firstE_drop (l : List Wri) (k : Nat) (x : Wri) (h : l[k]? = some x) : firstE (l.drop k) = if chkW x = 0 then firstE (l.drop (k + 1)) else chkW x := by
  have hk := (List.getElem?_eq_some_iff.1 h).1
  rw [List.drop_eq_getElem_cons hk]
  have : l[k] = x := by rw [List.getElem?_eq_getElem hk] at h; exact Option.some.inj h
  rw [this]
  rfl
set_option maxHeartbeats 1600000 in
set_option maxRecDepth 100000 in
theorem checkbatch_c (A : Option Addr) (c : Nat) (l : List Wri) (w : World) (hs : Sl encW 3 w A l) :
    Calls Try.prog 89 #[.slice A l.length c] w fun e w' => e = .returned (.int .i64 (chkB l)) ∧ Below w.heap.size w w' := by
  have hm := hs.1
  by_cases hb : 16 < l.length
  · go_enter Try.func89, Try.ntmps89
    go_wp2
    go_ret
    exact ⟨by simp [chkB, hb], Below.refl _ _⟩
  · have hcb : chkB l = firstE l := by simp [chkB, hb]
    have HCB := Lib.hid hcb
    clear hcb
    go_enter Try.func89, Try.ntmps89
    go_wp2
    go_loopg [11] l.length (fun gk v11 wr => ∃ k : Nat, gk = l.length - k ∧ k ≤ l.length ∧ v11 = .int .i64 k ∧ firstE l = firstE (l.drop k) ∧ Below w.heap.size w wr)
    case atStart => exact ⟨0, by omega, by omega, rfl, by simp, Below.refl _ _⟩
    case round =>
      obtain ⟨k, hg, hk, rfl, hf, hB⟩ := hrel
      have HG := Lib.hid hg
      have HF := Lib.hid hf
      clear hg hf
      by_cases hlt : k < l.length
      · obtain ⟨x, hx⟩ := getElem?_of_lt hlt
        have hfd := firstE_drop l k x hx
        obtain ⟨b, o, rfl, hbl, hc⟩ := (hs.later hB).at hx
        obtain ⟨xk, xd, xv⟩ := x
        have c0 : wr.cell? ⟨b, o + k * 3, none⟩ = some (.string xk) := hc 0 _ rfl
        have c1 : wr.cell? ⟨b, o + k * 3 + 1, none⟩ = some (.bool xd) := hc 1 _ rfl
        have c2 : wr.cell? ⟨b, o + k * 3 + 2, none⟩ = some (.string xv) := hc 2 _ rfl
        have HX := Lib.hid hx
        have HH := Lib.hid hs
        have HC := Lib.hid hc
        have HD := Lib.hid hfd
        clear hx hs hc hfd
        have hB1 : Below w.heap.size w (wr.alloc (.cells #[.string xk, .bool xd, .string xv] 89)) := hB.alloc hB.size _
        by_cases e0 : chk xk = 0
        · have e1 : (chk xk != 0) = false := by simp [e0]
          have E0 := Lib.hid e0
          clear e0
          cases xd with
          | true =>
            go_wp2_with (go_at_call 112; refine (check_c _ _).mono ?_; rintro e w' ⟨rfl, rfl⟩)
            go_roundg (l.length - (k + 1))
            case measure => have := HG.out; omega
            case rel => exact ⟨k + 1, rfl, by omega, by go_num, by rw [HF.out, HD.out]; simp [chkW, E0.out], hB1⟩
          | false =>
            by_cases e2 : 512 < xv.size
            · go_wp2_with (go_at_call 112; refine (check_c _ _).mono ?_; rintro e w' ⟨rfl, rfl⟩)
              go_ret
              exact ⟨by rw [HCB.out, HF.out, HD.out]; simp [chkW, E0.out, e2], hB1⟩
            · go_wp2_with (go_at_call 112; refine (check_c _ _).mono ?_; rintro e w' ⟨rfl, rfl⟩)
              go_roundg (l.length - (k + 1))
              case measure => have := HG.out; omega
              case rel => exact ⟨k + 1, rfl, by omega, by go_num, by rw [HF.out, HD.out]; simp [chkW, E0.out, e2], hB1⟩
        · have e1 : (chk xk != 0) = true := by simp [e0]
          go_wp2_with (go_at_call 112; refine (check_c _ _).mono ?_; rintro e w' ⟨rfl, rfl⟩)
          go_ret
          exact ⟨by rw [HCB.out, HF.out, HD.out]; simp [chkW, e0], hB1⟩
      · have hkk : k = l.length := by omega
        subst hkk
        go_wp2
        go_ret
        exact ⟨by rw [HCB.out, HF.out]; simp [firstE], hB⟩
def ent (f : Int) (i : Nat) (x : Wri) : Ent := (x.1, IntKind.u64.wrap (f + (i : Int)), x.2.1, if x.2.1 then ⟨#[]⟩ else x.2.2)
def ents (f : Int) (l : List Wri) : List Ent := l.mapIdx (ent f)
theorem ents_snoc (f : Int) (l : List Wri) (k : Nat) (x : Wri) (h : l[k]? = some x) : ents f (l.take (k + 1)) = ents f (l.take k) ++ [ent f k x] := by
  have hk := (List.getElem?_eq_some_iff.1 h).1
  unfold ents
  rw [take_succ_of h, List.mapIdx_append]
  simp [List.length_take, Nat.min_eq_left (Nat.le_of_lt hk)]
theorem ents_len (f : Int) (l : List Wri) : (ents f l).length = l.length := by simp [ents]
theorem infoE55 : (Try.prog.info? 53).map (fun i => (i.zero, i.size, i.bytes)) = some (some (.agg #[.string ByteArray.empty, .int .u64 0, .bool false, .string ByteArray.empty]), 4, 48) := by kernel_rfl
set_option maxHeartbeats 3200000 in
set_option maxRecDepth 100000 in
theorem entries_c (f : Int) (A : Option Addr) (c : Nat) (l : List Wri) (hn : l.length ≤ 4096) (w : World) (hs : Sl encW 3 w A l) :
    Calls Try.prog 90 #[.int .u64 f, .slice A l.length c] w fun e w' => ∃ v, e = .returned v ∧ Own encE 53 4 w' w.heap.size v (ents f l) ∧ Below w.heap.size w w' := by
  obtain ⟨i0, hi, hz0, hz1, hz2⟩ := info_parts infoE55
  go_enter Try.func90, Try.ntmps90
  go_wp2
  go_loopg [5, 10] l.length (fun gk v5 v10 wr => ∃ k : Nat, gk = l.length - k ∧ k ≤ l.length ∧ v10 = .int .i64 k ∧ Own encE 53 4 wr w.heap.size v5 (ents f (l.take k)) ∧ Below w.heap.size w wr)
  case atStart => exact ⟨0, by omega, by omega, rfl, by simp [Own, ents, World.ownsRow], Below.refl _ _⟩
  case round =>
    obtain ⟨k, hg, hk, rfl, ho, hB⟩ := hrel
    have HG := Lib.hid hg
    have HO := Lib.hid ho
    clear hg ho
    by_cases hlt : k < l.length
    · obtain ⟨x, hx⟩ := getElem?_of_lt hlt
      obtain ⟨b, o, rfl, hbl, hc⟩ := (hs.later hB).at hx
      have hsnoc := ents_snoc f l k x hx
      have hel : (ents f (l.take k)).length = k := by rw [ents_len, List.length_take]; omega
      obtain ⟨xk, xd, xv⟩ := x
      have c0 : wr.cell? ⟨b, o + k * 3, none⟩ = some (.string xk) := hc 0 _ rfl
      have c1 : wr.cell? ⟨b, o + k * 3 + 1, none⟩ = some (.bool xd) := hc 1 _ rfl
      have c2 : wr.cell? ⟨b, o + k * 3 + 2, none⟩ = some (.string xv) := hc 2 _ rfl
      have HX := Lib.hid hx
      have HH := Lib.hid hs
      have HC := Lib.hid hc
      have HS := Lib.hid hsnoc
      have HE := Lib.hid hel
      clear hx hs hc hsnoc hel
      have i0' : (0 : Int) ≤ (k : Int) := by omega
      have i1' : (k : Int) < (l.length : Int) := by omega
      have ho := HO.out
      unfold Own at ho
      rw [HE.out] at ho
      have HO2 := Lib.hid ho
      clear ho HO
      cases xd with
      | true =>
        go_wp2_with fail
        go_region_held3 (fun w' => w'.cell? ⟨b, o + k * 3, none⟩ = some (.string xk) ∧ w'.cell? ⟨b, o + k * 3 + 1, none⟩ = some (.bool true)) (go_keep) (fail)
        rename_i hH
        clear hH
        go_wp2_with (at_builtin; refine wpList_append_own _ rfl (.tmp 37) (.tmp 39) 64 rfl w.heap.size 53 i0 _ 4 48 Try.underlying64 hi hz0 hz1 hz2 rfl (by decide) u5 k _ rfl (by exact ((HO2.out.alloc _).alloc _).drew) ⟨wr.heap.size + 1, 0, none⟩ 1 1 [.string xk, .int .u64 (IntKind.u64.wrap (f + ↑k)), .bool true, .string ⟨#[]⟩] rfl rfl ?c1 ?c2 ?c3 ?c4 ?c5 ?_)
        case c1 => exact World.news_of_block (cs := #[.string xk, .int .u64 (IntKind.u64.wrap (f + ↑k)), .bool true, .string ⟨#[]⟩]) (t := 53) (fr := (0, 0)) (alloc2_new _ _ _)
        case c2 => simp [Value.oneCell']
        case c3 => unfold maxLen; omega
        case c4 => omega
        case c5 => have := hB.size; simp; omega
        intro v1 w1 hown1 hgrow _
        have hB1 : Below w.heap.size w w1 := (((hB.alloc hB.size _).alloc (by have := hB.size; simp; omega) _).drew).grown hgrow (by have := hB.size; simp; omega) (own_base HO2.out)
        have hown2 : Own encE 53 4 w1 w.heap.size v1 (ents f (l.take (k + 1))) := by
          unfold Own
          rw [HS.out, List.length_append, HE.out, List.flatMap_append]
          exact hown1
        have H1 := Lib.hid hown2
        clear hown1 hown2 hgrow
        go_wp2
        go_roundg (l.length - (k + 1))
        case measure => have := HG.out; omega
        case rel => exact ⟨k + 1, rfl, by omega, by go_num, H1.out, hB1⟩
      | false =>
        go_wp2_with fail
        go_region_held3 (fun w' => w'.cell? ⟨b, o + k * 3, none⟩ = some (.string xk) ∧ w'.cell? ⟨b, o + k * 3 + 1, none⟩ = some (.bool false)) (go_keep) (fail)
        rename_i hH
        clear hH
        go_wp2_with (at_builtin; refine wpList_append_own _ rfl (.tmp 37) (.tmp 39) 64 rfl w.heap.size 53 i0 _ 4 48 Try.underlying64 hi hz0 hz1 hz2 rfl (by decide) u5 k _ rfl (by exact ((HO2.out.alloc _).alloc _).drew) ⟨wr.heap.size + 1, 0, none⟩ 1 1 [.string xk, .int .u64 (IntKind.u64.wrap (f + ↑k)), .bool false, .string xv] rfl rfl ?c1 ?c2 ?c3 ?c4 ?c5 ?_)
        case c1 => exact World.news_of_block (cs := #[.string xk, .int .u64 (IntKind.u64.wrap (f + ↑k)), .bool false, .string xv]) (t := 53) (fr := (0, 0)) (alloc2_new _ _ _)
        case c2 => simp [Value.oneCell']
        case c3 => unfold maxLen; omega
        case c4 => omega
        case c5 => have := hB.size; simp; omega
        intro v1 w1 hown1 hgrow _
        have hB1 : Below w.heap.size w w1 := (((hB.alloc hB.size _).alloc (by have := hB.size; simp; omega) _).drew).grown hgrow (by have := hB.size; simp; omega) (own_base HO2.out)
        have hown2 : Own encE 53 4 w1 w.heap.size v1 (ents f (l.take (k + 1))) := by
          unfold Own
          rw [HS.out, List.length_append, HE.out, List.flatMap_append]
          exact hown1
        have H1 := Lib.hid hown2
        clear hown1 hown2 hgrow
        go_wp2
        go_roundg (l.length - (k + 1))
        case measure => have := HG.out; omega
        case rel => exact ⟨k + 1, rfl, by omega, by go_num, H1.out, hB1⟩
    · have hkk : k = l.length := by omega
      subst hkk
      go_wp2
      go_ret
      exact ⟨_, rfl, by have := HO.out; rw [List.take_length] at this; exact this, hB⟩
end Go.Proofs.Ytjbbobhjomhnmaa.H
