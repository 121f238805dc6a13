/- MemOrder, plain: two memtables that take the same batches from either end; and two memtables beside one another. Conditions: sizes. -/
import Derived.Test.YtjbbobhjomhnmaaMeC
namespace Go.Proofs.Ytjbbobhjomhnmaa.H
open Go Go.RowKit Go.Deep Go.Shelf Go.Proofs Go.Proofs.YtjbbobhjomhnmaaW.PrintWords
set_option linter.unusedVariables false
set_option linter.unusedSimpArgs false
/-- The memtable behind the entries es. -/
def memE (draws : List Int) (es : List Ent) : MemV := addF draws mem0 es
theorem memE_F (draws : List Int) (f : Int) (ws : List Wri) : memF draws f ws = memE draws (ents f ws) := rfl
theorem memE_append (draws : List Int) (p x : List Ent) : memE draws (p ++ x) = addF draws (memE draws p) x := addF_append _ _ _ _
theorem memE_fz (draws : List Int) (es : List Ent) : (memE draws es).fz = false := by
  have := (addF_len draws mem0 es es.length).2
  rw [List.take_length] at this
  exact this
theorem memE_len (draws : List Int) (es : List Ent) : (memE draws es).L.length ≤ es.length := by
  have := (addF_len draws mem0 es es.length).1
  rw [List.take_length] at this
  have h0 : mem0.L.length = 0 := rfl
  unfold memE
  omega
theorem memE_wt (draws : List Int) (es : List Ent) (hok : ∀ e ∈ es, OkE e) (hl : es.length ≤ 9000) : 0 ≤ (memE draws es).wt ∧ (memE draws es).wt < 4000000000000000000 := by
  have := addF_wt draws mem0 es hok es.length
  rw [List.take_length] at this
  have h0 : mem0.wt = 0 := rfl
  unfold memE
  omega
theorem memE_L (draws : List Int) (es : List Ent) : (memE draws es).L = pushF draws es := foldl_addL draws _ _
theorem memE_laid (draws : List Int) {es : List Ent} (hu : Unlike es) : Laid draws es (memE draws es).L := by
  rw [memE_L]
  exact push_laid draws hu
theorem memE_snoc (draws : List Int) (p : List Ent) (e : Ent) : memE draws (p ++ [e]) = addS draws (memE draws p) e := by rw [memE_append]; rfl
theorem memE_new (draws : List Int) {p : List Ent} {e : Ent} (hu : Unlike (p ++ [e])) : memE draws (p ++ [e]) = ⟨insL (memE draws p).L (e, hgt draws (memE draws p).L.length), (memE draws p).wt + wtE e, mxU (memE draws p).last e.2.1, (memE draws p).fz⟩ := by
  rw [memE_snoc]
  unfold addS
  refine if_neg fun h => ?_
  obtain ⟨y, hy, hs⟩ := (hasL_iff _ _).1 h
  have h1 := List.pairwise_append.1 hu
  exact h1.2.2 y ((memE_laid draws h1.1).perm.subset hy) e (by simp) hs
def wF (es : List Ent) : Int := es.foldl (fun a e => a + wtE e) 0
def lF (es : List Ent) : Int := es.foldl (fun a e => mxU a e.2.1) 0
theorem wF_snoc (p : List Ent) (e : Ent) : wF (p ++ [e]) = wF p + wtE e := by unfold wF; rw [List.foldl_append]; rfl
theorem lF_snoc (p : List Ent) (e : Ent) : lF (p ++ [e]) = mxU (lF p) e.2.1 := by unfold lF; rw [List.foldl_append]; rfl
theorem memE_sums (draws : List Int) : ∀ es : List Ent, Unlike es → (memE draws es).wt = wF es ∧ (memE draws es).last = lF es :=
  snoc_ind (fun _ => ⟨rfl, rfl⟩) fun p e ih hu => by
    obtain ⟨h1, h2⟩ := ih (List.pairwise_append.1 hu).1
    rw [memE_new draws hu, wF_snoc, lF_snoc, ← h1, ← h2]
    exact ⟨rfl, rfl⟩
theorem wF_perm {p q : List Ent} (h : p.Perm q) : wF p = wF q := h.foldl_eq' (fun x _ y _ z => by omega) 0
theorem mxU_comm (z x y : Int) : mxU (mxU z x) y = mxU (mxU z y) x := by
  unfold mxU
  (repeat' split) <;> omega
theorem lF_perm {p q : List Ent} (h : p.Perm q) : lF p = lF q := h.foldl_eq' (fun x _ y _ z => mxU_comm z x.2.1 y.2.1) 0
theorem Unlike.perm {p q : List Ent} (h : Unlike p) (k : p.Perm q) : Unlike q := (k.pairwise_iff (fun {x y} hn hs => hn (samE_symm hs))).1 h
/-- What the law adds up. -/
def wsum (ws : List Wri) : Int := ws.foldl (fun a x => a + (2 * (x.1.size : Int) + (x.2.2.size : Int) + 448)) 0
theorem wsum_snoc (p : List Wri) (x : Wri) : wsum (p ++ [x]) = wsum p + (2 * (x.1.size : Int) + (x.2.2.size : Int) + 448) := by unfold wsum; rw [List.foldl_append]; rfl
theorem ents_snoc' (f : Int) (p : List Wri) (x : Wri) : ents f (p ++ [x]) = ents f p ++ [ent f p.length x] := by
  have := ents_snoc f (p ++ [x]) p.length x (by simp)
  rw [List.take_of_length_le (by simp), List.take_left] at this
  exact this
theorem wF_ents (f : Int) : ∀ ws : List Wri, (∀ y ∈ ws, y.2.1 = true → y.2.2 = ⟨#[]⟩) → wF (ents f ws) = wsum ws :=
  snoc_ind (fun _ => rfl) fun p x ih h => by
    rw [ents_snoc', wF_snoc, wsum_snoc, ih fun y hy => h y (List.mem_append_left _ hy)]
    have hx := h x (by simp)
    have : wtE (ent f p.length x) = 2 * (x.1.size : Int) + (x.2.2.size : Int) + 448 := by
      unfold wtE wt ent
      cases hd : x.2.1 with
      | false => simp only [hd, Bool.false_eq_true, if_false]; omega
      | true =>
        rw [hx hd]
        simp only [hd, if_true]
        show 2 * (x.1.size : Int) + 448 + 0 = 2 * (x.1.size : Int) + ((0 : Nat) : Int) + 448
        omega
    omega
theorem wsum_bound : ∀ ws : List Wri, (∀ y ∈ ws, y.1.size ≤ 64 ∧ y.2.2.size ≤ 512) → 0 ≤ wsum ws ∧ wsum ws ≤ 1088 * (ws.length : Int) :=
  snoc_ind (fun _ => by decide) fun p x ih h => by
    have h1 := ih fun y hy => h y (List.mem_append_left _ hy)
    have h2 := h x (by simp)
    rw [wsum_snoc, List.length_append, List.length_singleton]
    push_cast
    omega
theorem lF_ents : ∀ ws : List Wri, (ws.length : Int) ≤ 100000 → lF (ents 1 ws) = ws.length :=
  snoc_ind (fun _ => rfl) fun p x ih h => by
    rw [List.length_append, List.length_singleton] at h ⊢
    push_cast at h ⊢
    rw [ents_snoc', lF_snoc, ih (by omega), ent_seq (by decide) (by omega)]
    unfold mxU
    split <;> omega
/-- The entries of the batches, from the last on. -/
def revE (BB : List (List Wri)) : Nat → List Ent
  | 0 => []
  | k + 1 => revE BB k ++ ents (1 + (tot (BB.take (BB.length - 1 - k)) : Int)) (BB.getD (BB.length - 1 - k) [])
theorem revE_succ {BB : List (List Wri)} {k j : Nat} {x : List Wri} (hj : BB.length - 1 - k = j) (hx : BB[j]? = some x) : revE BB (k + 1) = revE BB k ++ ents (1 + (tot (BB.take j) : Int)) x := by
  show revE BB k ++ ents (1 + (tot (BB.take (BB.length - 1 - k)) : Int)) (BB.getD (BB.length - 1 - k) []) = _
  rw [hj, List.getD_eq_getElem?_getD, hx]
  rfl
theorem ents_take {BB : List (List Wri)} {j : Nat} {x : List Wri} (hx : BB[j]? = some x) : ents 1 (BB.take (j + 1)).flatten = ents 1 (BB.take j).flatten ++ ents (1 + (tot (BB.take j) : Int)) x := by
  rw [flat_snoc hx, ents_append, flat_tot]
theorem revE_perm (BB : List (List Wri)) : ∀ k, k ≤ BB.length → (ents 1 (BB.take (BB.length - k)).flatten ++ revE BB k).Perm (ents 1 BB.flatten)
  | 0, _ => by rw [Nat.sub_zero, List.take_length]; simp [revE]
  | k + 1, h => by
    obtain ⟨x, hx⟩ := getElem?_of_lt (l := BB) (by omega : BB.length - (k + 1) < BB.length)
    refine List.Perm.trans ?_ (revE_perm BB k (by omega))
    rw [revE_succ (by omega : BB.length - 1 - k = BB.length - (k + 1)) hx, show BB.length - k = BB.length - (k + 1) + 1 by omega, ents_take hx, List.append_assoc]
    exact List.Perm.append_left _ List.perm_append_comm
theorem revE_all (BB : List (List Wri)) : (revE BB BB.length).Perm (ents 1 BB.flatten) := by
  have := revE_perm BB BB.length (Nat.le_refl _)
  rw [Nat.sub_self] at this
  simpa [ents] using this
theorem revE_ok {BB : List (List Wri)} (h : Fit BB) : ∀ k, k ≤ BB.length → (revE BB k).length ≤ 960 ∧ ∀ e ∈ revE BB k, OkE e := fun k hk => by
  have hp := revE_perm BB k hk
  have hl := hp.length_eq
  rw [List.length_append, ents_len, ents_len, flat_tot, flat_tot] at hl
  have := h.tot
  refine ⟨by omega, fun e he => ents_ok (fun x hx => ?_) e (hp.subset (List.mem_append_right _ he))⟩
  have := h.flat x hx
  omega
/-- Behind all batches: the same entries, weights and numbers. -/
theorem order_same (d1 d2 : List Int) {BB : List (List Wri)} (h : Fit BB) :
    allE (memE d1 (ents 1 BB.flatten)).L = allE (memE d2 (revE BB BB.length)).L ∧ (allE (memE d1 (ents 1 BB.flatten)).L).length = tot BB ∧
    (memE d1 (ents 1 BB.flatten)).wt = wsum BB.flatten ∧ (memE d2 (revE BB BB.length)).wt = wsum BB.flatten ∧ (memE d1 (ents 1 BB.flatten)).last = (tot BB : Int) ∧ (memE d2 (revE BB BB.length)).last = (tot BB : Int) := by
  have ht := h.tot
  have hu : Unlike (ents 1 BB.flatten) := ents_unlike (by decide) (by rw [flat_tot]; omega)
  have hp := revE_all BB
  have hv : Unlike (revE BB BB.length) := hu.perm hp.symm
  have hw := wF_ents 1 BB.flatten fun y hy => (h.flat y hy).2.2
  have hl := lF_ents BB.flatten (by rw [flat_tot]; omega)
  rw [flat_tot] at hl
  have h1 := memE_laid d1 hu
  have h2 := memE_laid d2 hv
  refine ⟨sorted_uniq (List.pairwise_map.2 h1.order) (List.pairwise_map.2 h2.order) (h1.perm.trans (hp.symm.trans h2.perm.symm)), by rw [h1.perm.length_eq, ents_len, flat_tot], ?_, ?_, ?_, ?_⟩
  · rw [(memE_sums d1 _ hu).1, hw]
  · rw [(memE_sums d2 _ hv).1, wF_perm hp, hw]
  · rw [(memE_sums d1 _ hu).2, hl]
  · rw [(memE_sums d2 _ hv).2, lF_perm hp, hl]
theorem addE_c {t g : Nat} {S : Nat → Prop} {draws : List Int} {w : World} (es : List Ent) (f : Int) (xl : List Wri) (h : MemIs w t g S draws (memE draws es)) (A : Option Addr) (c : Nat) (hs : Sl encW 3 w A xl) (h0 : chkB xl = 0)
    (hok : ∀ x ∈ xl, x.1.size ≤ 64 ∧ x.2.2.size ≤ 512 ∧ (x.2.1 = true → x.2.2 = ⟨#[]⟩)) (hoke : ∀ e ∈ es, OkE e) (hl : es.length ≤ 2000) :
    Calls Try.prog 35 #[.pointer (some ⟨t, 0, none⟩), .int .u64 f, .slice A xl.length c] w fun e w' => e = .returned (.int .i64 0) ∧ AddOk w w' t g S draws (memE draws (es ++ ents f xl)) := by
  have ha := add_c h f A c xl hs (fun x hx => by have := hok x hx; omega) (by have := memE_len draws es; omega) (memE_wt draws es hoke (by omega))
  simp only [memE_fz, Bool.false_eq_true, if_false, h0, if_true, ← memE_append] at ha
  exact ha
/-! ### two memtables beside one another -/
/-- Two memtables in blocks of their own; what has been written since w0: their first blocks T alone. -/
structure TwoM (w0 w : World) (t g u v : Nat) (T1 T2 : Nat → Prop) (d1 d2 : List Int) (m1 m2 : MemV) : Prop where
  ex : ∃ S U, MemIs w t g S d1 m1 ∧ MemIs w u v U d2 m2 ∧ (∀ k, (S k ∨ k = t) → ¬ (U k ∨ k = u)) ∧ (∀ k, (S k ∨ k = t) → T1 k ∨ w0.heap.size ≤ k) ∧ (∀ k, (U k ∨ k = u) → T2 k ∨ w0.heap.size ≤ k)
  upd : Upd (fun k => T1 k ∨ T2 k) w0 w
section
variable {w0 w w' : World} {t g u v : Nat} {T1 T2 : Nat → Prop} {d1 d2 : List Int} {m1 m2 m' : MemV}
theorem TwoM.later (h : TwoM w0 w t g u v T1 T2 d1 d2 m1 m2) (hb : Below w.heap.size w w') : TwoM w0 w' t g u v T1 T2 d1 d2 m1 m2 := by
  obtain ⟨S, U, h1, h2, h3, h4, h5⟩ := h.ex
  exact ⟨⟨S, U, h1.later hb, h2.later hb, h3, h4, h5⟩, h.upd.trans (Upd.of_below hb)⟩
theorem TwoM.left (h : TwoM w0 w t g u v T1 T2 d1 d2 m1 m2) : ∃ S, MemIs w t g S d1 m1 := by
  obtain ⟨S, U, h1, h2, h3, h4, h5⟩ := h.ex
  exact ⟨S, h1⟩
theorem TwoM.right (h : TwoM w0 w t g u v T1 T2 d1 d2 m1 m2) : ∃ S, MemIs w u v S d2 m2 := by
  obtain ⟨S, U, h1, h2, h3, h4, h5⟩ := h.ex
  exact ⟨U, h2⟩
theorem TwoM.swap (h : TwoM w0 w t g u v T1 T2 d1 d2 m1 m2) : TwoM w0 w u v t g T2 T1 d2 d1 m2 m1 := by
  obtain ⟨S, U, h1, h2, h3, h4, h5⟩ := h.ex
  exact ⟨⟨U, S, h2, h1, fun k hk hn => h3 k hn hk, h5, h4⟩, h.upd.mono fun k hk => hk.symm⟩
theorem TwoM.add (h : TwoM w0 w t g u v T1 T2 d1 d2 m1 m2) {f : FuncId} {args : Array Value} {r : Value} (hc : ∀ S, MemIs w t g S d1 m1 → Calls Try.prog f args w fun e w' => e = .returned r ∧ AddOk w w' t g S d1 m') :
    Calls Try.prog f args w fun e w' => e = .returned r ∧ TwoM w0 w' t g u v T1 T2 d1 d2 m' m2 := by
  obtain ⟨S, U, h1, h2, h3, h4, h5⟩ := h.ex
  refine (hc S h1).mono fun e w' ⟨he, hu, S', hg, hm⟩ => ⟨he, ⟨S', U, hm, h2.upd hu (fun k hk hn => h3 k hn (.inl hk)) (fun hn => h3 u hn (.inr rfl)), fun k hk hn => ?_, fun k hk => ?_, h5⟩, h.upd.step hu fun k hk => ?_⟩
  · rcases hk with hk | hk
    · rcases hg k hk with hk | hk
      · exact h3 k (.inl hk) hn
      · rcases hn with hn | hn
        · have := h2.list.lt k hn; omega
        · have := blk_lt h2.row; omega
    · exact h3 k (.inr hk) hn
  · rcases hk with hk | hk
    · rcases hg k hk with hk | hk
      · exact h4 k (.inl hk)
      · have := h.upd.size; exact .inr (by omega)
    · exact h4 k (.inr hk)
  · rcases h4 k hk with h | h
    · exact .inl (.inl h)
    · exact .inr h
end
/-- The stages of a round: nothing, the one's, both batches put in. -/
def OrdR (w0 : World) (t g u v : Nat) (T1 T2 : Nat → Prop) (d1 d2 : List Int) (p1 q1 p2 q2 : List Ent) (s : Nat) (W : World) : Prop :=
  match s with
  | 0 => TwoM w0 W t g u v T1 T2 d1 d2 (memE d1 p1) (memE d2 p2)
  | 1 => TwoM w0 W t g u v T1 T2 d1 d2 (memE d1 q1) (memE d2 p2)
  | _ => TwoM w0 W t g u v T1 T2 d1 d2 (memE d1 q1) (memE d2 q2)
theorem OrdR.upd {w0 : World} {t g u v : Nat} {T1 T2 : Nat → Prop} {d1 d2 : List Int} {p1 q1 p2 q2 : List Ent} {s : Nat} {W : World} (h : OrdR w0 t g u v T1 T2 d1 d2 p1 q1 p2 q2 s W) : Upd (fun k => T1 k ∨ T2 k) w0 W := by
  match s, h with
  | 0, h => exact TwoM.upd h
  | 1, h => exact TwoM.upd h
  | _ + 2, h => exact TwoM.upd h
theorem order_seq (d1 : List Int) {BB : List (List Wri)} (h : Fit BB) : ∀ e ∈ allE (memE d1 (ents 1 BB.flatten)).L, e.2.1 ≤ 18446744073709551615 := fun e he => by
  have ht := h.tot
  have hu : Unlike (ents 1 BB.flatten) := ents_unlike (by decide) (by rw [flat_tot]; omega)
  obtain ⟨j, hj⟩ := List.getElem?_of_mem ((memE_laid d1 hu).perm.subset he)
  obtain ⟨x, hx, rfl⟩ := ents_at hj
  have h1 := (List.getElem?_eq_some_iff.1 hx).1
  rw [flat_tot] at h1
  rw [ent_seq (by decide) (by omega)]
  omega
end Go.Proofs.Ytjbbobhjomhnmaa.H
