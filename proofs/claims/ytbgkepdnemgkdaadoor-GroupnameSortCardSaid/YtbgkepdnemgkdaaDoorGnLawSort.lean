/- Walk of the law GroupnameSort: for every slice of strings it returns true, where the library cell MaxLen holds some number. -/
import Derived.Test.YtbgkepdnemgkdaaDoorGnRefSort
namespace Go.Proofs.YtbgkepdnemgkdaaDoor
open Go.RowKit Go.Gn

/-- The place from which the element number i is fetched. -/
def spot (n t i : Nat) : Nat := (n - 1 - i + t) % n
/-- The first k of the turned list. -/
def turned (zs : List ByteArray) (t k : Nat) : List ByteArray := (List.range k).map fun i => zs.getD (spot zs.length t i) ByteArray.empty

theorem turned_succ (zs : List ByteArray) (t k : Nat) : turned zs t (k + 1) = turned zs t k ++ [zs.getD (spot zs.length t k) ByteArray.empty] := by
  unfold turned; rw [List.range_succ, List.map_append]; rfl
theorem turned_length (zs : List ByteArray) (t k : Nat) : (turned zs t k).length = k := by unfold turned; simp

theorem spot_inv (n t j : Nat) (hj : j < n) : spot n t ((n - 1 - j + t % n) % n) = j := by
  unfold spot
  have hn : 0 < n := by omega
  have ht : t % n < n := Nat.mod_lt _ hn
  have e1 : ∀ a : Nat, (a + t) % n = (a + t % n) % n := fun a => by rw [Nat.add_mod, Nat.add_mod a (t % n), Nat.mod_mod]
  rw [e1]
  generalize t % n = u at *
  by_cases h1 : n - 1 - j + u < n
  · rw [Nat.mod_eq_of_lt h1]
    rw [show n - 1 - (n - 1 - j + u) + u = j by omega]
    exact Nat.mod_eq_of_lt hj
  · have h2 : (n - 1 - j + u) % n = n - 1 - j + u - n := by
      rw [Nat.mod_eq_sub_mod (by omega)]; exact Nat.mod_eq_of_lt (by omega)
    rw [h2]
    rw [show n - 1 - (n - 1 - j + u - n) + u = j + n by omega, Nat.add_mod_right]
    exact Nat.mod_eq_of_lt hj

theorem mem_turned (zs : List ByteArray) (t : Nat) (x : ByteArray) : x ∈ turned zs t zs.length ↔ x ∈ zs := by
  unfold turned
  rw [List.mem_map]
  constructor
  · rintro ⟨i, hi, rfl⟩
    rw [List.mem_range] at hi
    have h1 : spot zs.length t i < zs.length := Nat.mod_lt _ (by omega)
    rw [List.getD_eq_getElem?_getD, List.getElem?_eq_getElem h1]
    exact List.getElem_mem h1
  · intro hx
    obtain ⟨j, hj, rfl⟩ := List.getElem_of_mem hx
    have hn : 0 < zs.length := by omega
    refine ⟨(zs.length - 1 - j + t % zs.length) % zs.length, List.mem_range.2 (Nat.mod_lt _ hn), ?_⟩
    have hs := spot_inv zs.length t j hj
    rw [hs, List.getD_eq_getElem?_getD, List.getElem?_eq_getElem hj]; rfl

theorem sortErr_all : ∀ (L : List Str), (∀ s ∈ L, check s = 0) → sortErr L = 0
  | [], _ => rfl
  | s :: L, h => by rw [sortErr_on (h s (by simp))]; exact sortErr_all L fun x hx => h x (by simp [hx])

theorem sortErr_mem {L M : List Str} (h : ∀ x, x ∈ L ↔ x ∈ M) : sortErr L = 0 ↔ sortErr M = 0 :=
  ⟨fun e => sortErr_all M fun x hx => sortErr_zero L e x ((h x).2 hx), fun e => sortErr_all L fun x hx => sortErr_zero M e x ((h x).1 hx)⟩

set_option maxRecDepth 100000 in
/-- append(v, zs...) with a source that lies anywhere. -/
theorem app_list {ops : Array Oper} {rest : List Oper} {o : Oper} {a : Act} {Q : Exit → Act → World → Prop} {w0 W : World} {base : Nat} {v : Value} {xs zs : List ByteArray} {a' : Option Addr} {m c' : Nat} (HO : OwnS W base v xs) (HB : Below base w0 W) (hbase : base ≤ W.heap.size)
    (HZ : SS W a' zs) (hm : zs.length = m) (hc0 : a' = none → c' = 0) (hl : xs.length + m ≤ 8000000000000)
    (s x : Operand) (hgd : o.guard = none)
    (ho : o.op = .call { callee := .builtin .append, args := #[s, x], argTypes := #[24, 24] })
    (hs : a.eval s = v) (hx : a.eval x = .slice a' m c')
    (h : ∀ v1 w1, OwnS w1 base v1 (xs ++ zs) → Below base w0 w1 → wpList Tryd.prog ops Q rest (a.put o.dst v1) w1) :
    wpList Tryd.prog ops Q (o :: rest) a W := by
  refine wpList_plain hgd fun K hK => ?_
  have := step_app (ops := #[]) (K := K) (Q := Q) (E := True) HO HZ hm hc0 hl hbase s x hgd ho hs hx (fun v1 w1 hO hG => hK _ _ (h v1 w1 hO (HB.grown hG hbase (fun q hq => (HO.lt q hq).1))))
  rwa [if_pos (by simp [Region.wanted, hgd])] at this

set_option maxRecDepth 100000 in
set_option maxHeartbeats 2000000 in
theorem lawsort_short (a : Option Addr) (n c : Nat) (zs : List ByteArray) (t : Int) (w : World) (hM : ML w) (hn : zs.length = n) (hc : n ≤ c) (hS : SS w a zs) (hno : a = none → c = 0) (ht0 : 0 ≤ t) (ht1 : t < 256) (h : shortB (zs.map bs) = true) :
    GivesB Tryd.prog 4 #[.slice a n c, .int .u8 t] (.bool true) w := by
  have hK := known_any w hM
  have hs := fun (W : World) (hb : Below w.heap.size w W) => short_any a n c zs W hn (hS.below hb)
  rw [h] at hs
  have HN := Lib.hid hn
  have HM := Lib.hid hM
  obtain ⟨h60, h120⟩ := shortB_true h
  rw [List.length_map, hn] at h60
  have HSZ : Hid (∀ x ∈ zs, x.size ≤ 120) := fun x hx => by have := h120 (bs x) (List.mem_map_of_mem hx); rwa [len_bs] at this
  unfold GivesB at *
  clear hn h hM h120
  go_enter Tryd.func4, Tryd.ntmps4
  go_wp2_with fail
  refine hK.mono ?_
  rintro e w1 ⟨rfl, hb1⟩
  go_wp2_with fail
  refine (hs _ hb1).mono ?_
  rintro e w2 ⟨rfl, hb2⟩
  have hb2 := below_then' hb1 hb2
  clear hK hs hb1
  go_wp2
  obtain ⟨tn, rfl⟩ : ∃ tn : Nat, t = (tn : Int) := ⟨t.toNat, by omega⟩
  go_loopg [5, 6] n (fun gg s5 s6 wr => ∃ (k : Nat), k ≤ n ∧ n - k ≤ gg ∧ s6 = .int .i64 k ∧ OwnS wr w2.heap.size s5 (turned zs tn k) ∧ Below w2.heap.size w2 wr)
  case atStart => exact ⟨0, Nat.zero_le _, by omega, rfl, OwnS.nil _ _, Below.refl _ _⟩
  case round =>
    obtain ⟨k, hk, hg, rfl, hO, hB⟩ := hrel
    by_cases hlt : k < n
    · have hltz : (k : Int) < (n : Int) := by omega
      have hn0 : 0 < n := by omega
      have hm : ((n : Int) - 1 - (k : Int) + (tn : Int)).tmod (n : Int) = ((spot n tn k : Nat) : Int) := by
        unfold spot
        rw [show ((n : Int) - 1 - (k : Int) + (tn : Int)) = ((n - 1 - k + tn : Nat) : Int) by omega]
        rfl
      have hj : spot n tn k < n := Nat.mod_lt _ hn0
      have hjz : (spot n tn k) < zs.length := by rw [HN.out]; exact hj
      have HX : Hid (zs.getD (spot zs.length tn k) ByteArray.empty = zs[spot n tn k]) := by
        unfold Hid
        rw [List.getD_eq_getElem?_getD, HN.out, List.getElem?_eq_getElem hjz]; rfl
      obtain ⟨b, off, rfl, hb, hcell0⟩ := hS.some hjz
      have hcell := ((hb2.trans (hB.mono hb2.size)).cell (p := ⟨b, off + spot n tn k, none⟩) hb).trans hcell0
      clear hcell0
      generalize zs[spot n tn k] = y at hcell HX
      generalize spot n tn k = j at *
      have hjl : (j : Int) < (n : Int) := by omega
      have hlt2 := turned_length zs tn k
      go_wp2_with (at_builtin; refine app_str hO hB hB.size (by omega) y _ _ rfl rfl rfl rfl ?_; intro v1 w3 hO1 hB1)
      go_roundg (n - (k + 1))
      case measure => omega
      case rel => exact ⟨k + 1, by omega, by omega, by go_num, by rw [turned_succ, HX.out]; exact hO1, hB1⟩
    · have hltz : ¬ (k : Int) < (n : Int) := by omega
      have hkn : k = n := by omega
      obtain ⟨ai, ci, hv, hSi, hlei, _, hnoi⟩ := hO.ssn
      have htl := turned_length zs tn k
      have HTM : Hid (∀ x, x ∈ turned zs tn k ↔ x ∈ zs) := fun x => by have := mem_turned zs tn x; rw [HN.out, ← hkn] at this; exact this
      rw [htl] at hv hlei
      generalize turned zs tn k = xs at hSi HTM htl hO
      clear hO
      subst hv
      have hSs := (hS.below (below_then' hb2 hB)).alloc (.cells #[] 9)
      have hBw := below_then' hb2 hB
      go_wp2_with (at_builtin; refine app_list (base := wr.heap.size) (w0 := wr) (OwnS.lit wr _ (Nat.le_refl _)) ((Below.refl _ wr).alloc (Nat.le_refl _) _) (by simp) hSs HN.out hno (by simp <;> omega) _ _ rfl rfl rfl rfl ?_; intro v1 w3 hO1 hB1)
      have hb03 := below_then' hBw hB1
      have hmem : ∀ x, x ∈ xs.map bs ↔ x ∈ zs.map bs := fun x => by
        constructor
        · intro hx
          obtain ⟨y, hy, rfl⟩ := List.mem_map.1 hx
          exact List.mem_map_of_mem ((HTM.out y).1 hy)
        · intro hx
          obtain ⟨y, hy, rfl⟩ := List.mem_map.1 hx
          exact List.mem_map_of_mem ((HTM.out y).2 hy)
      have HMEM := Lib.hid hmem
      obtain ⟨a1, c1, hv1, hS1, _, _, _⟩ := hO1.ssn
      rw [List.nil_append] at hv1 hS1
      have hnz : zs.length = n := HN.out
      rw [hnz] at hv1
      subst hv1
      have hS3 := hS.below hb03
      have hSi3 := hSi.below hB1
      have hM3 := HM.out.below hb03
      have hsx : ∀ x ∈ xs, x.size ≤ 1000000 := fun x hx => Nat.le_trans (HSZ.out x ((HTM.out x).1 hx)) (by decide)
      have hsz : ∀ x ∈ zs, x.size ≤ 1000000 := fun x hx => Nat.le_trans (HSZ.out x hx) (by decide)
      have hsr : ∀ x ∈ zs, x.size ≤ 1000 := fun x hx => Nat.le_trans (HSZ.out x hx) (by decide)
      have h1 := gsort_any a n c zs w3 hnz (by omega) hS3 hsz hM3
      have h2 := fun (W : World) (hb : Below w3.heap.size w3 W) => gsort_any ai n ci xs W (by omega) (by omega) (hSi3.below hb) hsx (hM3.below hb)
      have h3 := fun (W : World) (hb : Below w3.heap.size w3 W) => rsort_any a n c zs W hnz (by omega) (hS3.below hb) hsr
      have h4 := fun (W : World) (hb : Below w3.heap.size w3 W) => same_any a n c zs a1 n c1 zs W hnz hnz (by omega) (by omega) (hS3.below hb) (hS1.below hb)
      rw [decide_eq_true rfl] at h4
      have H2 := Lib.hid h2
      have H3 := Lib.hid h3
      clear h2 h3 hsx hsz hsr hmem hO1 hSs
      by_cases hq : sortErr (zs.map bs) = 0
      · have hq2 : sortErr (xs.map bs) = 0 := (sortErr_mem HMEM.out).2 hq
        have HQ := Lib.hid hq
        have HQ2 := Lib.hid hq2
        clear hq hq2
        refine h1.mono ?_
        clear h1
        rintro e w4 ⟨hb4, ⟨hne, _⟩ | ⟨_, a4, c4, y4, rfl, hy4, hS4, _⟩⟩
        · exact absurd HQ.out hne
        have HY4 := Lib.hid hy4
        clear hy4
        go_wp2_with fail
        refine (H2.out _ hb4).mono ?_
        rintro e w5 ⟨hb5, ⟨hne, _⟩ | ⟨_, a5, c5, y5, rfl, hy5, hS5, _⟩⟩
        · exact absurd HQ2.out hne
        have HY5 := Lib.hid hy5
        clear hy5
        have hb5' := below_then' hb4 hb5
        have hS45 := hS4.below hb5
        go_wp2_with fail
        refine (H3.out _ hb5').mono ?_
        rintro e w6 ⟨hb6, ⟨hne, _⟩ | ⟨_, a6, c6, y6, rfl, hy6, hS6, _⟩⟩
        · exact absurd HQ.out hne
        have HY6 := Lib.hid hy6
        clear hy6
        have hb6' := below_then' hb5' hb6
        have hS46 := hS45.below hb6
        have hS56 := hS5.below hb6
        have HLEN : Hid (y4.length ≤ 60 ∧ y5.length ≤ 60 ∧ y6.length ≤ 60) := by
          have l1 := length_sortU cmp (zs.map bs)
          have l2 := length_sortU cmp (xs.map bs)
          rw [List.length_map] at l1 l2
          refine ⟨?_, ?_, ?_⟩
          · rw [← List.length_map (f := bs), HY4.out]; omega
          · rw [← List.length_map (f := bs), HY5.out]; omega
          · rw [← List.length_map (f := bs), HY6.out]; omega
        clear hb4 hb5 hb6 hS4 hS5 hS45
        go_wp2_with fail
        refine (h4 _ hb6').mono ?_
        rintro e w7 ⟨rfl, hb7⟩
        have hb7' := below_then' hb6' hb7
        have hS47 := hS46.below hb7
        have hS57 := hS56.below hb7
        have hS67 := hS6.below hb7
        clear hS46 hS56 hS6 h4
        go_wp2_with fail
        have h5 := same_any a4 y4.length c4 y4 a6 y6.length c6 y6 w7 rfl rfl (by have := HLEN.out; omega) (by have := HLEN.out; omega) hS47 hS67
        rw [decide_eq_true (show y4.map bs = y6.map bs by rw [HY4.out, HY6.out])] at h5
        refine h5.mono ?_
        clear h5
        rintro e w8 ⟨rfl, hb8⟩
        have hb8' := below_then' hb7' hb8
        have hS48 := hS47.below hb8
        have hS58 := hS57.below hb8
        go_wp2_with fail
        have h6 := same_any a4 y4.length c4 y4 a5 y5.length c5 y5 w8 rfl rfl (by have := HLEN.out; omega) (by have := HLEN.out; omega) hS48 hS58
        rw [decide_eq_true (show y4.map bs = y5.map bs by rw [HY4.out, HY5.out]; exact (sortU_congr cmp_is HMEM.out).symm)] at h6
        refine h6.mono ?_
        clear h6
        rintro e w9 ⟨rfl, hb9⟩
        have hb9' := below_then' hb8' hb9
        go_wp2_with fail
        go_ret
        exact ⟨rfl, below_then' hb03 hb9'⟩
      · have hq2 : sortErr (xs.map bs) ≠ 0 := fun e => hq ((sortErr_mem HMEM.out).1 e)
        have HQ := Lib.hid hq
        have HQ2 := Lib.hid hq2
        obtain ⟨q, hqe⟩ : ∃ q, q = sortErr (zs.map bs) := ⟨_, rfl⟩
        obtain ⟨q2, hqe2⟩ : ∃ q2, q2 = sortErr (xs.map bs) := ⟨_, rfl⟩
        have hz : ((q : Int) == 0) = false := by rw [hqe]; simp; omega
        have hz2 : ((q2 : Int) == 0) = false := by rw [hqe2]; simp; omega
        have HE := Lib.hid hqe
        have HE2 := Lib.hid hqe2
        clear hq hq2 hqe hqe2
        refine h1.mono ?_
        clear h1
        rintro e w4 ⟨hb4, ⟨_, rfl⟩ | ⟨hne, _⟩⟩
        case inr => exact absurd hne HQ.out
        rw [← HE.out]
        go_wp2_with fail
        refine (H2.out _ hb4).mono ?_
        rintro e w5 ⟨hb5, ⟨_, rfl⟩ | ⟨hne, _⟩⟩
        case inr => exact absurd hne HQ2.out
        rw [← HE2.out]
        have hb5' := below_then' hb4 hb5
        go_wp2_with fail
        refine (H3.out _ hb5').mono ?_
        rintro e w6 ⟨hb6, ⟨_, rfl⟩ | ⟨hne, _⟩⟩
        case inr => exact absurd hne HQ.out
        rw [← HE.out]
        have hb6' := below_then' hb5' hb6
        clear hb4 hb5 hb6
        go_wp2_with fail
        refine (h4 _ hb6').mono ?_
        rintro e w7 ⟨rfl, hb7⟩
        have hb7' := below_then' hb6' hb7
        clear h4
        go_wp2_with fail
        have h5 := fun W => same_any none 0 0 [] none 0 0 [] W rfl rfl (by decide) (by decide) (.inl rfl) (.inl rfl)
        rw [decide_eq_true rfl] at h5
        refine (h5 _).mono ?_
        rintro e w8 ⟨rfl, hb8⟩
        have hb8' := below_then' hb7' hb8
        go_wp2_with fail
        refine (h5 _).mono ?_
        rintro e w9 ⟨rfl, hb9⟩
        have hb9' := below_then' hb8' hb9
        go_wp2_with fail
        go_ret
        exact ⟨rfl, below_then' hb03 hb9'⟩

set_option maxRecDepth 100000 in
set_option maxHeartbeats 1000000 in
theorem lawsort_long (a : Option Addr) (n c : Nat) (zs : List ByteArray) (t : Int) (w : World) (hM : ML w) (hn : zs.length = n) (hS : SS w a zs) (h : shortB (zs.map bs) = false) :
    GivesB Tryd.prog 4 #[.slice a n c, .int .u8 t] (.bool true) w := by
  have hK := fun (W : World) (hb : Below w.heap.size w W) => known_any W (hM.below hb)
  have hs := fun (W : World) (hb : Below w.heap.size w W) => short_any a n c zs W hn (hS.below hb)
  rw [h] at hs
  unfold GivesB at *
  clear hM hn hS
  go_enter Tryd.func4, Tryd.ntmps4
  go_wp2_with fail
  refine (hK _ (Below.refl _ _)).mono ?_
  rintro e w1 ⟨rfl, hb1⟩
  go_wp2_with fail
  refine (hs _ hb1).mono ?_
  rintro e w2 ⟨rfl, hb2⟩
  have hb2 := below_then' hb1 hb2
  go_wp2_with fail
  refine (hK _ hb2).mono ?_
  rintro e w3 ⟨rfl, hb3⟩
  go_wp2_with fail
  go_ret
  exact ⟨rfl, below_then' hb2 hb3⟩

theorem lawsort_any (a : Option Addr) (n c : Nat) (zs : List ByteArray) (t : Int) (w : World) (hM : ML w) (hn : zs.length = n) (hc : n ≤ c) (hS : SS w a zs) (hno : a = none → c = 0) (ht : (Lit.int .u8 t).wf = true) :
    GivesB Tryd.prog 4 #[.slice a n c, .int .u8 t] (.bool true) w := by
  have hb : 0 ≤ t ∧ t < 256 := by
    unfold Lit.wf at ht
    rw [Bool.and_eq_true, decide_eq_true_eq, decide_eq_true_eq] at ht
    have e1 : IntKind.min .u8 = 0 := by decide
    have e2 : IntKind.max .u8 = 255 := by decide
    rw [e1, e2] at ht
    omega
  cases h : shortB (zs.map bs) with
  | false => exact lawsort_long a n c zs t w hM hn hS h
  | true => exact lawsort_short a n c zs t w hM hn hc hS hno hb.1 hb.2 h
end Go.Proofs.YtbgkepdnemgkdaaDoor
