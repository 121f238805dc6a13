/- The entries of a batch, by the program and by the document. Conditions: a batch holds at most 4096 writes. -/
import Derived.Test.YtdeomnbmbhkecaaHKey4
import Derived.OwnWalk
import Derived.Deep.AppendLies
namespace Go.Proofs.Ytdeomnbmbhkecaa.H
open Go.RowKit Go.Deep Go.Proofs.YtdeomnbmbhkecaaW.PrintWords
set_option linter.unusedVariables false
set_option linter.unusedSimpArgs false
def ent (f : Int) (i : Nat) (x : Wri) : Ent := (x.1, IntKind.u64.wrap (f + (i : Int)), x.2.1, if x.2.1 then ⟨#[]⟩ else x.2.2)
def ents (f : Int) (l : List Wri) : List Ent := l.mapIdx (ent f)
theorem ents_snoc (f : Int) (l : List Wri) (k : Nat) (x : Wri) (h : l[k]? = some x) : ents f (l.take (k + 1)) = ents f (l.take k) ++ [ent f k x] := by
  have hk := (List.getElem?_eq_some_iff.1 h).1
  unfold ents
  rw [take_succ_of h, List.mapIdx_append]
  simp [List.length_take, Nat.min_eq_left (Nat.le_of_lt hk)]
theorem ents_len (f : Int) (l : List Wri) : (ents f l).length = l.length := by simp [ents]
theorem Try.info55 : (Try.prog.info? 55).map (fun i => (i.zero, i.size, i.bytes)) = some (some (.agg #[.string ByteArray.empty, .int .u64 0, .bool false, .string ByteArray.empty]), 4, 48) := by kernel_rfl
set_option maxHeartbeats 3200000 in
set_option maxRecDepth 100000 in
theorem entries_c (f : Int) (A : Option Addr) (c : Nat) (l : List Wri) (hn : l.length ≤ 4096) (w : World) (hs : Sl encW 3 w A l) :
    Calls Try.prog 21 #[.int .u64 f, .slice A l.length c] w fun e w' => ∃ v, e = .returned v ∧ Own encE 55 4 w' w.heap.size v (ents f l) ∧ Below w.heap.size w w' := by
  obtain ⟨i0, hi, hz0, hz1, hz2⟩ := info_parts Try.info55
  go_enter Try.func21, Try.ntmps21
  go_wp2
  go_loopg [5, 10] l.length (fun gk v5 v10 wr => ∃ k : Nat, gk = l.length - k ∧ k ≤ l.length ∧ v10 = .int .i64 k ∧ Own encE 55 4 wr w.heap.size v5 (ents f (l.take k)) ∧ Below w.heap.size w wr)
  case atStart => exact ⟨0, by omega, by omega, rfl, by simp [Own, ents, World.ownsRow], Below.refl _ _⟩
  case round =>
    obtain ⟨k, hg, hk, rfl, ho, hB⟩ := hrel
    have HG := Lib.hid hg
    have HO := Lib.hid ho
    clear hg ho
    by_cases hlt : k < l.length
    · obtain ⟨x, hx⟩ := getElem?_of_lt hlt
      obtain ⟨b, o, rfl, hbl, hc⟩ := (hs.later hB).at hx
      have hsnoc := ents_snoc f l k x hx
      have hel : (ents f (l.take k)).length = k := by rw [ents_len, List.length_take]; omega
      obtain ⟨xk, xd, xv⟩ := x
      have c0 : wr.cell? ⟨b, o + k * 3, none⟩ = some (.string xk) := hc 0 _ rfl
      have c1 : wr.cell? ⟨b, o + k * 3 + 1, none⟩ = some (.bool xd) := hc 1 _ rfl
      have c2 : wr.cell? ⟨b, o + k * 3 + 2, none⟩ = some (.string xv) := hc 2 _ rfl
      have HX := Lib.hid hx
      have HH := Lib.hid hs
      have HC := Lib.hid hc
      have HS := Lib.hid hsnoc
      have HE := Lib.hid hel
      clear hx hs hc hsnoc hel
      have i0' : (0 : Int) ≤ (k : Int) := by omega
      have i1' : (k : Int) < (l.length : Int) := by omega
      have ho := HO.out
      unfold Own at ho
      rw [HE.out] at ho
      have HO2 := Lib.hid ho
      clear ho HO
      cases xd with
      | true =>
        go_wp2_with fail
        go_region_held3 (fun w' => w'.cell? ⟨b, o + k * 3, none⟩ = some (.string xk) ∧ w'.cell? ⟨b, o + k * 3 + 1, none⟩ = some (.bool true)) (go_keep) (fail)
        rename_i hH
        clear hH
        go_wp2_with (at_builtin; refine wpList_append_own _ rfl (.tmp 37) (.tmp 39) 50 rfl w.heap.size 55 i0 _ 4 48 Try.underlying50 hi hz0 hz1 hz2 rfl (by decide) u5 k _ rfl (by exact ((HO2.out.alloc _).alloc _).drew) ⟨wr.heap.size + 1, 0, none⟩ 1 1 [.string xk, .int .u64 (IntKind.u64.wrap (f + ↑k)), .bool true, .string ⟨#[]⟩] rfl rfl ?c1 ?c2 ?c3 ?c4 ?c5 ?_)
        case c1 => exact World.news_of_block (cs := #[.string xk, .int .u64 (IntKind.u64.wrap (f + ↑k)), .bool true, .string ⟨#[]⟩]) (t := 55) (fr := (0, 0)) (alloc2_new _ _ _)
        case c2 => simp [Value.oneCell']
        case c3 => unfold maxLen; omega
        case c4 => omega
        case c5 => have := hB.size; simp; omega
        intro v1 w1 hown1 hgrow _
        have hB1 : Below w.heap.size w w1 := (((hB.alloc hB.size _).alloc (by have := hB.size; simp; omega) _).drew).grown hgrow (by have := hB.size; simp; omega) (own_base HO2.out)
        have hown2 : Own encE 55 4 w1 w.heap.size v1 (ents f (l.take (k + 1))) := by
          unfold Own
          rw [HS.out, List.length_append, HE.out, List.flatMap_append]
          exact hown1
        have H1 := Lib.hid hown2
        clear hown1 hown2 hgrow
        go_wp2
        go_roundg (l.length - (k + 1))
        case measure => have := HG.out; omega
        case rel => exact ⟨k + 1, rfl, by omega, by go_num, H1.out, hB1⟩
      | false =>
        go_wp2_with fail
        go_region_held3 (fun w' => w'.cell? ⟨b, o + k * 3, none⟩ = some (.string xk) ∧ w'.cell? ⟨b, o + k * 3 + 1, none⟩ = some (.bool false)) (go_keep) (fail)
        rename_i hH
        clear hH
        go_wp2_with (at_builtin; refine wpList_append_own _ rfl (.tmp 37) (.tmp 39) 50 rfl w.heap.size 55 i0 _ 4 48 Try.underlying50 hi hz0 hz1 hz2 rfl (by decide) u5 k _ rfl (by exact ((HO2.out.alloc _).alloc _).drew) ⟨wr.heap.size + 1, 0, none⟩ 1 1 [.string xk, .int .u64 (IntKind.u64.wrap (f + ↑k)), .bool false, .string xv] rfl rfl ?c1 ?c2 ?c3 ?c4 ?c5 ?_)
        case c1 => exact World.news_of_block (cs := #[.string xk, .int .u64 (IntKind.u64.wrap (f + ↑k)), .bool false, .string xv]) (t := 55) (fr := (0, 0)) (alloc2_new _ _ _)
        case c2 => simp [Value.oneCell']
        case c3 => unfold maxLen; omega
        case c4 => omega
        case c5 => have := hB.size; simp; omega
        intro v1 w1 hown1 hgrow _
        have hB1 : Below w.heap.size w w1 := (((hB.alloc hB.size _).alloc (by have := hB.size; simp; omega) _).drew).grown hgrow (by have := hB.size; simp; omega) (own_base HO2.out)
        have hown2 : Own encE 55 4 w1 w.heap.size v1 (ents f (l.take (k + 1))) := by
          unfold Own
          rw [HS.out, List.length_append, HE.out, List.flatMap_append]
          exact hown1
        have H1 := Lib.hid hown2
        clear hown1 hown2 hgrow
        go_wp2
        go_roundg (l.length - (k + 1))
        case measure => have := HG.out; omega
        case rel => exact ⟨k + 1, rfl, by omega, by go_num, H1.out, hB1⟩
    · have hkk : k = l.length := by omega
      subst hkk
      go_wp2
      go_ret
      exact ⟨_, rfl, by have := HO.out; rw [List.take_length] at this; exact this, hB⟩
end Go.Proofs.Ytdeomnbmbhkecaa.H
