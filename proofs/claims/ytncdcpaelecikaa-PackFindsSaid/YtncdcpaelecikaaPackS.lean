/-
  The law's bytes.
-/
import Derived.Test.YtncdcpaelecikaaPackK
import Derived.Test.YtncdcpaelecikaaOrdZ
import Derived.Test.YtncdcpaelecikaaPackL
namespace Go.Proofs.Ytncdcpaelecikaa
open Go.RowKit

theorem blockOf_sub (a : Option Addr) (l c s : Nat) : blockOf (subA a l c s) = blockOf a := by
  unfold subA
  split
  · rfl
  · cases a with
    | none => rfl
    | some p => simp only [Option.map_some, blockOf]; congr 1; unfold Addr.add; split <;> rfl
/-- x[:h], with its block. -/
theorem owp_sl_hiA {P : Program} {w : World} {o : Oper} {f : Act} {K : Act → World → Prop} {Q : Exit → Act → World → Prop} (xO hO : Operand) {t : TypeId}
    (ho : o.op = .slice t xO none (some hO) none) {e s b : Nat} {z : Value} (E : Elem P t e s b z) {a : Option Addr} {n c : Nat} {xs : List Value} (hx : f.eval xO = .slice a n c) (hr : Row w a n c s xs)
    (h : Nat) {kh : IntKind} {H : Int} (hh : f.eval hO = .int kh H) (hH : H = (h : Int)) (hhn : h ≤ n)
    (hk : ∀ a', blockOf a' = blockOf a → Row w a' h c s (xs.take (h * s)) → K (f.put o.dst (.slice a' h c)) w) : o.wp P f w K Q := by
  subst hH
  unfold Oper.wp
  simp [execOp, ho, hx, hh, Instr.sliceAt, run_underlying E.und, run_sl_hi E a n c kh h (by have := hr.le; omega), Result.andThen]
  refine hk _ (blockOf_sub _ _ _ _) ?_
  have h := hr.sub 0 h (Nat.zero_le _) hhn
  simpa using h
/-- []byte("..") of a constant: the literal's slice, its block marked. -/
theorem owp_cc {P : Program} {w : World} {o : Oper} {f : Act} {K : Act → World → Prop} {Q : Exit → Act → World → Prop} (xO : Operand) {t e : TypeId} (ho : o.op = .convert t t xO) {g n c : Nat} (hx : f.eval xO = .slice (some ⟨g, 0, none⟩) n c)
    (ht : P.underlying t = some (.slice e)) (he : P.underlying e = some (.int .u8)) {C : Array Value} (hg : w.heap[g]? = some (.cells C e (0, 0)))
    (h : ∀ w', w'.heap[g]? = some (.cells C e (C.size, C.size + 1)) → w.grownBy w' (some g) → K (f.put o.dst (.slice (some ⟨g, 0, none⟩) n c)) w') : o.wp P f w K Q := by
  have hsh : w.shape? g = some (e, C.size) := by unfold World.shape?; rw [hg]
  have hrun : (convert t t (.slice (some ⟨g, 0, none⟩) n c)).run P w = .ok (.slice (some ⟨g, 0, none⟩) n c) (w.freeze ⟨g, C.size, none⟩ 1) := by
    simp [convert, run_underlying ht, run_underlying he, markStringish, hsh]
  have hlt : g < w.heap.size := (Array.getElem?_eq_some_iff.1 hg).1
  have hfz : (w.freeze ⟨g, C.size, none⟩ 1).heap[g]? = some (.cells C e (C.size, C.size + 1)) := by
    unfold World.freeze
    rw [if_neg (by decide)]
    simp [Array.getElem?_modify, hg]
  have hgr : w.grownBy (w.freeze ⟨g, C.size, none⟩ 1) (some g) := by
    unfold World.freeze
    rw [if_neg (by decide)]
    exact ⟨rfl, rfl, rfl, by simp, fun k _ hk => by
      simp only [Array.getElem?_modify]
      rw [if_neg (fun e => hk (by rw [e]))]⟩
  unfold Oper.wp execOp
  simp only [ho, hx, hrun, Sem.run_bind, Sem.run_pure, Result.andThen_ok]
  exact h _ hfz hgr
theorem asc_err : ∀ (L : List Ck) (p : Option Ck), Asc L → (∀ x, p = some x → ∀ k ∈ L, lessB x k = true) → errAt p L = 0
  | [], _, _, _ => rfl
  | k :: L, p, hA, hp => by
    have hr := hA.1 k (List.mem_cons_self ..)
    have hb : behindB p k = true := by
      cases p with
      | none => rfl
      | some x => exact hp x rfl k (List.mem_cons_self ..)
    have hpw := List.pairwise_cons.1 hA.2
    rw [errAt, if_neg (by rw [hr]; decide), if_neg (by rw [hb]; decide)]
    exact asc_err L (some k) ⟨fun y hy => hA.1 y (List.mem_cons_of_mem _ hy), hpw.2⟩ (fun x hx y hy => by cases hx; exact hpw.1 y hy)
theorem asc_enc {L : List Ck} (hA : Asc L) (hl : L.length ≤ 5) : encRes L = (packB L, 0) ∧ 4 ≤ (packB L).length ∧ (packB L).length ≤ 1048576 := by
  have h0 := asc_err L none hA (fun x hx => by cases hx)
  have hf := frames_le 8192 L (fun k hk => by
    have := hA.1 k hk
    simp only [rightB, Bool.and_eq_true, decide_eq_true_eq] at this
    have := fp_lt k.l
    omega)
  have h1 := enc_le10 (v := L.length) (by omega)
  have h2 := enc_le10 (v := fp (bodyB L)) (by have := fp_lt (bodyB L); omega)
  have h3 : L.length * (8192 + 21) ≤ 5 * (8192 + 21) := Nat.mul_le_mul_right _ hl
  have h4 : (packB L).length ≤ 1048576 ∧ 4 ≤ (packB L).length := by
    simp only [packB, bodyB, List.length_append, List.length_cons, List.length_nil]
    have : magicB.length = 4 := rfl
    simp only [bodyB] at h2
    omega
  refine ⟨?_, h4.2, h4.1⟩
  unfold encRes
  rw [h0, if_neg (by decide), if_neg (by omega)]
theorem EncPost.is {w w' : World} {L : List Ck} {e : Ending} {B : List UInt8} {x : Int} (h : EncPost w L e w') (hr : encRes L = (B, x)) : EncIs w B x e w' := by
  unfold EncPost at h
  rw [hr] at h
  exact h
theorem wp_weaken' {P : Program} {o : Oper} {a : Act} {w : World} {K K' : Act → World → Prop} {Q Q' : Exit → Act → World → Prop} (h : ∀ a w, K a w → K' a w) (hq : ∀ e a w, e ≠ .normal → Q e a w → Q' e a w)
    (hh : o.wp P a w K Q) : o.wp P a w K' Q' := by
  unfold Oper.wp at *
  generalize (execOp a.eval o).run P w = r at *
  cases r with
  | ok n w' =>
    cases n <;> simp only [Oper.upon] at hh ⊢ <;>
      first
        | exact h _ _ hh
        | exact Calls.mono hh (fun e w'' he => by
            cases e <;> first | exact h _ _ he | exact hq _ _ _ (fun h => by cases h) he | (obtain ⟨a0, w0, h0⟩ := he; exact ⟨a0, w0, hq _ _ _ (fun h => by cases h) h0⟩))
        | exact Rows.mono hh (fun _ _ he => h _ _ he)
  | halt x w' => cases x <;> simp only [Oper.upon] at hh ⊢ <;> first | exact hq _ _ _ (fun h => by cases h) hh | exact hh
theorem owp_of_list {P : Program} {ops : Array Oper} {o : Oper} {a : Act} {w : World} {K : Act → World → Prop} {Q : Exit → Act → World → Prop} (hg : o.guard = none)
    (h : wpList P ops (fun e a w => e = .normal ∧ K a w) [o] a w) : o.wp P a w K Q := by
  unfold wpList at h
  rw [if_pos (by simp [Region.wanted, hg])] at h
  rcases h with h | ⟨-, -, -, h, -⟩
  · exact wp_weaken' (fun a w h => h.2) (fun e a w he h => absurd h.1 he) h
  · cases h
theorem owp_appF {P : Program} {w : World} {o : Oper} {f : Act} {K : Act → World → Prop} {Q : Exit → Act → World → Prop} (hgd : o.guard = none) (sO xO : Operand) {t : TypeId}
    (ho : o.op = .call { callee := .builtin .append, args := #[sO, xO], argTypes := #[t, t] })
    {e s b : Nat} {z : Value} (E : Elem P t e s b z) {B : Nat} {a : Option Addr} {n c : Nat} {xs : List Value} (hs : f.eval sO = .slice a n c) (hown : OwnF w B e s a n c xs)
    {xa : Option Addr} {m xc : Nat} {news : List Value} (hx : f.eval xO = .slice xa m xc) (hrow : Row w xa m xc s news) (h1 : ∀ u ∈ news, u.oneCell' = true) (hm0 : 0 < m)
    (hb : (n + m) * b ≤ 140737488355328) (hm : n + m ≤ maxLen) (hB : B ≤ w.heap.size)
    (h : ∀ a' c' w', w'.ownsRow B e s (.slice a' (n + m) c') (n + m) (xs ++ news) → Below B w w' → K (f.put o.dst (.slice a' (n + m) c')) w') : o.wp P f w K Q :=
  owp_of_list (ops := #[]) hgd (wpList_appF hgd sO xO ho E hs hown hx hrow h1 hm0 hb hm hB fun a' c' w' h2 h3 => ⟨rfl, h a' c' w' h2 h3⟩)
def BytesPost (w : World) (g k0 : Nat) (e : Ending) (w' : World) : Prop :=
  ∃ (a : Option Addr) (n c k : Nat) (l : List UInt8), e = .returned (.slice a n c) ∧ Bytes w' a n c l ∧ (∀ p, a = some p → w.heap.size ≤ p.block) ∧ n ≤ 3000000 ∧ Tape w' g k ∧ k ≤ k0 + 200 ∧ w.grownBy w' (some g)
theorem row_of_heap4 {w : World} {g : Nat} {fr : Nat × Nat} (h : w.heap[g]? = some (.cells #[.int .u8 83, .int .u8 89, .int .u8 80, .int .u8 75] 5 fr)) : Row w (some ⟨g, 0, none⟩) 4 4 1 (magicB.map u8) :=
  ⟨rfl, by omega, by decide, (fun h => nomatch h), (fun p hp => .inr ⟨_, _, (Option.some.inj hp).symm⟩), fun p hp j u hj => by
    cases hp
    rw [Addr.add_lit, Nat.zero_add, cell_of_row _ _ _ _ _ _ h, ← hj]
    rcases j with _ | _ | _ | _ | j <;> rfl⟩
def MidB (w4 : World) (v : Nat → Value) (w' : World) : Prop :=
  ∃ (a' : Option Addr) (n' c' : Nat) (l' : List UInt8), v 3 = .slice a' n' c' ∧ w'.ownsRow w4.heap.size 5 1 (.slice a' n' c') n' (l'.map u8) ∧ n' ≤ 3000000 ∧ Ext w4 w'
theorem own_fresh {w : World} {B e s n c : Nat} {a : Option Addr} {xs : List Value} (h : w.ownsRow B e s (.slice a n c) n xs) : ∀ p, a = some p → B ≤ p.block := fun p hp => (own_block (k := p.block) h (by rw [hp]; rfl)).1

set_option maxRecDepth 100000 in
set_option maxHeartbeats 4000000 in
theorem lawBytes_any (g k0 : Nat) (w : World) (ht : Tape w g k0) (hk : k0 ≤ 1000000000000) :
    Calls Try.prog 15 #[.pointer (some ⟨g, 0, none⟩)] w (BytesPost w g k0) := by
  have hgl := ht.lt
  have t1 : True := trivial
  go_enter Try.func15, Try.ntmps15
  go_wp2_with (first
    | (go_at_call 19; (with_reducible refine (made_any g k0 _ ht (by omega)).mono ?_); rintro e w1 ⟨a1, m, c1, k1, L, rfl, hO1, hm, hA, ht1, hk1, hg1⟩; have hE := asc_enc hA (by have := hO1.len; omega))
    | (go_at_call 13; (with_reducible refine (refEncode_any a1 m c1 L _ hO1.chunks (by omega) (hO1.frames_le (by omega))).mono ?_); rintro e w2 hp2; obtain ⟨a2, n2, c2, rfl, ho2, hx2⟩ := hp2.is hE.1; have hl2 := own_len ho2; have ht2 := ht1.ext hx2; have hg2 := grown_trans' hg1 (grown_extS g hx2))
    | (go_at_call 20; have _t := t1; (with_reducible refine (Next_any g k1 6 _ ht2 (by omega) (by omega)).mono ?_); rintro e w3 ⟨p, rfl, hp, ht3, hg3⟩; clear t1; refine Stop.of ?_))
  have hp6 : p < 6 := by unfold Below1 at hp; omega
  clear hp
  have ho3 := own_kept (own_base ho2 hg1.size) hg3 hgl
  have hg03 := grown_trans' hg2 hg3
  have hn4 : 4 ≤ n2 := by have := hE.2.1; omega
  have hn5 : n2 ≤ 1048576 := by have := hE.2.2; omega
  generalize packB L = l at *
  clear hE hA hO1 ho2
  have hb3 := Bytes.of_own ho3
  have hfr3 := own_fresh ho3
  have hpp : p = 0 ∨ p = 1 ∨ p = 2 ∨ p = 3 ∨ 4 ≤ p := by omega
  rcases hpp with rfl | rfl | rfl | rfl | hp4
  · refine Stop.out ?_
    go_wp2
    obtain ⟨b, cur, rfl, hBb, hhb, hnc, hcur⟩ := own_some ho3 (by omega)
    have hbg : b ≠ g := by omega
    have hR0 : ∀ w', w3.grownBy w' (some g) → w'.ownsRow w.heap.size 5 1 (.slice (some ⟨b, 0, none⟩) n2 c2) n2 (l.map u8) := fun w' h => own_kept ho3 h hgl
    refine wp_region_z (fun w' => w3.grownBy w' (some g)) (grown_drews w3 g) [12] (.qs [0, 1, 2, 3, 7] (.l 4 (.qs [5, 6] (.l 8 (.qs [9, 10, 11] (.l 12 .nil)))))) (by kernel_rfl) (by kernel_rfl) ?_
    iterate 5 ((refine wpZ_q rfl rfl _ (fun w' hx' => by go_simp; try rfl) ?_; go_simp))
    refine wpZ_l rfl rfl ?_
    go_simp
    refine (Next_any g (k1 + 1) n2 _ ht3.drew (by omega) (by omega)).mono ?_
    rintro e w4 ⟨u, rfl, hu, ht4, hg4⟩
    have hun : u < n2 := by unfold Below1 at hu; omega
    have hg34 := grown_trans' (grown_drews w3 g) hg4
    refine ⟨hg34, ?_⟩
    go_simp
    obtain ⟨x, hxu⟩ : ∃ x, l[u]? = some x := ⟨_, List.getElem?_eq_getElem (by omega)⟩
    have hcu : ∀ w', w3.grownBy w' (some g) → w'.cell? ⟨b, u, none⟩ = some (.int .u8 (x.toNat : Int)) := fun w' h => by
      obtain ⟨hil, hix⟩ := List.getElem?_eq_some_iff.1 hxu
      have := (Bytes.of_own (hR0 w' h)).cellAt u hil
      rw [Nat.zero_add, hix] at this
      exact this
    have hfu : ∀ w', w3.grownBy w' (some g) → w'.frozen? ⟨b, u, none⟩ = false := fun w' h => by
      obtain ⟨b', cur', e1, -, h2, -⟩ := own_some (hR0 w' h) (by omega)
      obtain rfl : b = b' := by simpa using e1
      exact frozen_none h2 _
    have HXU := Lib.hid hxu
    clear hu hxu hcur
    refine wpZ_ixp rfl rfl (.tmp 16) (.tmp 20) rfl Try.elB rfl u rfl rfl hun ?_
    ((refine wpZ_q rfl rfl _ (fun w' hx' => by go_simp; try rfl) ?_; go_simp))
    refine wpZ_l rfl rfl ?_
    go_simp
    refine (Next_any g (k1 + 1 + 1) 8 _ ht4 (by omega) (by omega)).mono ?_
    rintro e w5 ⟨v, rfl, hv, ht5, hg5⟩
    have hv8 : v < 8 := by unfold Below1 at hv; omega
    have hg35 := grown_trans' hg34 hg5
    refine ⟨hg35, ?_⟩
    go_simp
    clear hv
    iterate 2 ((refine wpZ_q rfl rfl _ (fun w' hx' => by go_simp; try rfl) ?_; go_simp))
    refine wpZ_ixp rfl rfl (.tmp 16) (.tmp 20) rfl Try.elB rfl u rfl rfl hun ?_
    have hc5 := hcu w5 hg35
    have hf5 := hfu w5 hg35
    refine wpZ_l rfl rfl ?_
    go_simp
    refine wpZ_nil ?_
    go_simp
    clear hc5 hf5
    go_wp2
    go_ret
    have ho5 := hR0 w5 hg35
    have key : ∀ V, (∃ x', V = u8 x') → BytesPost w g k0 (.returned (.slice (some ⟨b, 0, none⟩) n2 c2)) (w5.setCell ⟨b, u, none⟩ V) := fun V ⟨x', hx'⟩ => by
      rw [hx']
      have ho6 := own_setCell (j := u) (v := u8 x') ho5 (by omega)
      rw [← List.map_set] at ho6
      have hg6 := grown_setCell' w5 b u (u8 x')
      exact ⟨_, n2, c2, k1 + 1 + 1 + 1, _, rfl, Bytes.of_own ho6, own_fresh ho6, by omega, ht5.grown hg6 (fun b' hb' => by cases hb'; omega), by omega, grown_own (grown_trans' hg03 hg35) hg6 hBb⟩
    exact key _ (u8_bits _ _ _)
  · refine Stop.out ?_
    go_wp2_with (first
      | (go_at_call 20; (with_reducible refine (Next_any g (k1 + 1) ((n2 : Int) + 1) _ ht3 (by omega) (by omega)).mono ?_); rintro e w4 ⟨u, rfl, hu, ht4, hg4⟩; have hun : u ≤ n2 := (by unfold Below1 at hu; omega))
      | ((with_reducible refine atSlot 36 ?_); refine wpList_of_wp rfl (owp_sl_hiA (o := ⟨some 36, _, _, _, _, _⟩) _ _ rfl Try.elB rfl (Bytes.of_own (own_kept ho3 hg4 hgl)).row u rfl rfl hun ?_); intro a5 ha5 hr5; have hb5 := Bytes.take hr5))
    go_ret
    exact ⟨a5, u, c2, k1 + 1 + 1, l.take u, rfl, hb5, (fun p hp => (own_block (k := p.block) ho3 (by rw [← ha5, hp]; rfl)).1), by omega, ht4, by omega, grown_trans' hg03 hg4⟩
  · refine Stop.out ?_
    go_wp2_with (first
      | (go_at_call 20; (with_reducible refine (Next_any g (k1 + 1) 2 _ ht3 (by omega) (by omega)).mono ?_); rintro e w4 ⟨u, rfl, hu, ht4, hg4⟩; have hu2 : (u : Int) < 2 := (by unfold Below1 at hu; omega))
      | (at_builtin; refine wpList_appK rfl _ _ rfl Try.elB rfl (.inl (own_ext (own_kept ho3 hg4 hgl) (Ext.alloc' _ _))) rfl (Row.one _ _ _) (by intro u hu; simp at hu; subst hu; rfl) (by omega) (by omega) (by unfold maxLen; omega) (by have := hg03.size; have := hg4.size; simp; omega) ?_; intro a6 c6 w6 ho6 hb6 hk6))
    go_ret
    have hg04 := grown_trans' hg03 hg4
    have hB6 : Below w.heap.size w4 w6 := ((Ext.alloc' _ _).mono hg04.size).trans hb6
    have hu8 : Value.int .u8 (u : Int) = u8 (UInt8.ofNat u) := (u8_ofNat u (by omega)).symm
    have ho6' : w6.ownsRow w.heap.size 5 1 (.slice a6 (n2 + 1) c6) (n2 + 1) ((l ++ [UInt8.ofNat u]).map u8) := by rw [List.map_append, List.map_cons, List.map_nil, ← hu8]; exact ho6
    exact ⟨a6, n2 + 1, c6, k1 + 1 + 1, _, rfl, Bytes.of_own ho6', own_fresh ho6', by omega, ht4.below (hB6.mono (by omega)), by omega, ⟨hB6.os.trans hg04.os, hB6.tape.trans hg04.tape, hB6.output.trans hg04.output, Nat.le_trans hg04.size hB6.size, fun k hk hkg => (hB6.block k hk).trans (hg04.block k hk hkg)⟩⟩
  · refine Stop.out ?_
    go_wp2_with (go_at_call 19; (with_reducible refine (made_any g (k1 + 1) _ ht3 (by omega)).mono ?_); rintro e w4 ⟨a4, m4, c4, k4, M, rfl, hO4, hm4, hA4, ht4, hk4, hg4⟩; refine Stop.of ?_)
    have hg04 := grown_trans' hg03 hg4
    have ho4 := own_kept ho3 hg4 hgl
    by_cases hm0 : 0 < m4
    rotate_left
    · have hd : decide (0 < m4) = false := by simpa using hm0
      refine Stop.out ?_
      go_wp2
      go_ret
      exact ⟨a2, n2, c2, k4, l, rfl, Bytes.of_own ho4, own_fresh ho4, by omega, ht4, by omega, hg04⟩
    obtain ⟨y, hy⟩ : ∃ y, M[m4 - 1]? = some y := ⟨_, List.getElem?_eq_getElem (by have := hO4.len; omega)⟩
    have hyR := hA4.1 y (List.mem_of_getElem? hy)
    have hyI := (hO4.2 y (List.mem_of_getElem? hy)).in
    have hyn := (hO4.2 y (List.mem_of_getElem? hy)).2.1
    have hyl : y.l.length ≤ 8192 ∧ y.z.toNat ≤ 8192 := by
      have := hyI.1.len
      simp only [rightB, Bool.and_eq_true, decide_eq_true_eq] at hyR
      omega
    have hfl := frameB_len y.s y.z.toNat y.l hyI.2.2 hyl.2
    have hrM := Row.of_own hO4.1
    have hb4 := Bytes.of_own ho4
    have HY := Lib.hid hy
    have HYR := Lib.hid hyR
    have oneDrop : ∀ u ∈ (l.map u8).drop (4 * 1), u.oneCell' = true := fun u hu => u8_oneCell l u (List.mem_of_mem_drop hu)
    clear hy hyR
    refine Stop.out ?_
    go_wp2
    have hwr : IntKind.i64.wrap ((m4 : Int) - 1) = (m4 : Int) - 1 := by rw [IntKind.wrap_i64]; omega
    refine wp_region_e [] (.qs [2, 3, 4, 5, 6, 7, 10, 11] (.alt 0 (.alt 1 (.l 8 (.l 9 (.l 12 (.qs [13] .nil)))) (.alt 8 (.l 1 (.l 9 (.l 12 (.qs [13] .nil)))) .stop)) (.alt 8 (.l 0 (.l 1 (.l 9 (.l 12 (.qs [13] .nil))))) .stop))) (by kernel_rfl) (by kernel_rfl) ?_
    refine wpY_midA (Meets [3, 52, 53, 54, 55, 56, 57, 58, 59, 60, 61, 62, 63, 64] (MidB w4)) ?_ ?_
    · iterate 4 ((refine wpY_q rfl rfl _ (fun w' hx' => by go_simp; try rfl) ?_; go_simp))
      clear hwr
      refine wpY_ix rfl rfl (.tmp 54) (.tmp 57) rfl Try.elC rfl (fun w' h => hrM.ext h) (m4 - 1) rfl (by omega) (by omega) ?_
      intro b5 o5 hc5
      have hi5 : ∀ w', Ext w4 w' → w'.rangeAt b5 o5 y.cells := fun w' h => range_get HY.out (fun j hj => hc5 j hj w' h)
      clear hc5
      refine wpY_ld rfl rfl (.tmp 58) rfl b5 o5 rfl y.cells _ hi5 Try.underlying46 rfl (by kernel_rfl) ?_
      ((refine wpY_q rfl rfl _ (fun w' hx' => by go_simp; try rfl) ?_; go_simp))
      refine wpY_sl_lo rfl rfl (.tmp 62) _ rfl Try.elB rfl (fun w' h => (hb4.ext h).row) 4 rfl rfl (by omega) ?_
      intro a63 hr63
      have E4 : Ext w4 w4.drew := Ext.drew' _
      refine wpY_alt rfl rfl ?_ (wpY_alt rfl rfl ?_ wpY_stop)
      · go_simp
        have E5 := E4.trans' (Ext.alloc' w4.drew (.cells #[.int .u8 83, .int .u8 89, .int .u8 80, .int .u8 75] 5))
        refine ⟨E5, ?_⟩
        refine wpY_alt rfl rfl ?_ (wpY_alt rfl rfl ?_ wpY_stop)
        · refine owp_cc _ rfl rfl Try.underlying28 Try.underlying5 (heap_alloc_new w4.drew (.cells #[.int .u8 83, .int .u8 89, .int .u8 80, .int .u8 75] 5)) ?_
          intro w6 hh6 hg6
          have E6 : Ext w4 w6 := E5.grown hg6 E5.size (fun k hk => by cases hk; exact Nat.le_refl _)
          refine ⟨fun _ => E6, ?_⟩
          go_simp
          refine wpY_l rfl rfl ?_
          go_simp
          refine (Frame_at y.s y.z y.a y.n y.c y.l _ (hyI.1.ext E6) HYR.out hyI.2.2).mono ?_
          rintro e w7 ⟨a7, n7, c7, rfl, ho7, hx7⟩
          have hl7 := own_len ho7
          have E7 := E6.trans' hx7
          refine ⟨E7, ?_⟩
          go_simp
          refine wpY_l rfl rfl (owp_appF rfl _ _ rfl Try.elB rfl (.inr ⟨rfl, row_of_heap4 (hx7.heap' hh6)⟩) rfl (Row.of_own ho7) (u8_oneCell _) (by omega) (by omega) (by unfold maxLen; omega) E7.size ?_)
          intro a8 c8 w8 ho8 hb8
          have E8 : Ext w4 w8 := E7.trans hb8
          refine ⟨fun _ => E8, ?_⟩
          go_simp
          refine wpY_l rfl rfl (owp_app _ _ rfl Try.elB rfl ho8 rfl (hr63 _ E8) oneDrop (by omega) (by unfold maxLen; omega) E8.size ?_)
          intro a9 c9 w9 ho9 hg9
          have E9 : Ext w4 w9 := below_app E8 ho8 hg9 E8.size
          refine ⟨fun _ => E9, ?_⟩
          go_simp
          ((refine wpY_q rfl rfl _ (fun w' hx' => by go_simp; try rfl) ?_; go_simp))
          refine wpY_nil (Meets.mk (by kernel_rfl) ⟨a9, _, c9, magicB ++ frameB y.s y.z.toNat y.l ++ l.drop 4, rfl, ?_, by omega, E9⟩)
          rw [List.map_append, List.map_append, List.map_drop]
          exact ho9
        · go_simp
          refine (Frame_at y.s y.z y.a y.n y.c y.l _ (hyI.1.ext E5) HYR.out hyI.2.2).mono ?_
          rintro e w7 ⟨a7, n7, c7, rfl, ho7, hx7⟩
          have hl7 := own_len ho7
          have E7 := E5.trans' hx7
          refine ⟨E7, ?_⟩
          go_simp
          have hh7 := hx7.heap' (heap_alloc_new w4.drew (.cells #[.int .u8 83, .int .u8 89, .int .u8 80, .int .u8 75] 5))
          refine wpY_l rfl rfl (owp_cc _ rfl rfl Try.underlying28 Try.underlying5 hh7 ?_)
          intro w6 hh6 hg6
          have E6 : Ext w4 w6 := E7.grown hg6 E7.size (fun k hk => by cases hk; exact Nat.le_refl _)
          have ho76 := own_other ho7 hg6 (fun h => Nat.lt_irrefl _ (Nat.lt_of_lt_of_le (alloc_gt w4.drew (.cells #[.int .u8 83, .int .u8 89, .int .u8 80, .int .u8 75] 5)) (own_block ho7 _ h).1))
          refine ⟨fun _ => E6, ?_⟩
          go_simp
          refine wpY_l rfl rfl (owp_appF rfl _ _ rfl Try.elB rfl (.inr ⟨rfl, row_of_heap4 hh6⟩) rfl (Row.of_own ho76) (u8_oneCell _) (by omega) (by omega) (by unfold maxLen; omega) E6.size ?_)
          intro a8 c8 w8 ho8 hb8
          have E8 : Ext w4 w8 := E6.trans hb8
          refine ⟨fun _ => E8, ?_⟩
          go_simp
          refine wpY_l rfl rfl (owp_app _ _ rfl Try.elB rfl ho8 rfl (hr63 _ E8) oneDrop (by omega) (by unfold maxLen; omega) E8.size ?_)
          intro a9 c9 w9 ho9 hg9
          have E9 : Ext w4 w9 := below_app E8 ho8 hg9 E8.size
          refine ⟨fun _ => E9, ?_⟩
          go_simp
          ((refine wpY_q rfl rfl _ (fun w' hx' => by go_simp; try rfl) ?_; go_simp))
          refine wpY_nil (Meets.mk (by kernel_rfl) ⟨a9, _, c9, magicB ++ frameB y.s y.z.toNat y.l ++ l.drop 4, rfl, ?_, by omega, E9⟩)
          rw [List.map_append, List.map_append, List.map_drop]
          exact ho9
      · go_simp
        refine (Frame_at y.s y.z y.a y.n y.c y.l _ (hyI.1.ext E4) HYR.out hyI.2.2).mono ?_
        rintro e w7 ⟨a7, n7, c7, rfl, ho7, hx7⟩
        have hl7 := own_len ho7
        have E7 := E4.trans' hx7
        refine ⟨E7, ?_⟩
        go_simp
        refine wpY_l rfl rfl ?_
        go_simp
        have E5 := E7.trans' (Ext.alloc' w7 (.cells #[.int .u8 83, .int .u8 89, .int .u8 80, .int .u8 75] 5))
        refine ⟨E5, ?_⟩
        refine wpY_l rfl rfl (owp_cc _ rfl rfl Try.underlying28 Try.underlying5 (heap_alloc_new w7 (.cells #[.int .u8 83, .int .u8 89, .int .u8 80, .int .u8 75] 5)) ?_)
        intro w6 hh6 hg6
        have E6 : Ext w4 w6 := E5.grown hg6 E5.size (fun k hk => by cases hk; exact E7.size)
        have ho76 := own_other (own_ext ho7 (Ext.alloc' w7 (.cells #[.int .u8 83, .int .u8 89, .int .u8 80, .int .u8 75] 5))) hg6 (fun h => Nat.lt_irrefl _ (own_block ho7 _ h).2)
        refine ⟨fun _ => E6, ?_⟩
        go_simp
        refine wpY_l rfl rfl (owp_appF rfl _ _ rfl Try.elB rfl (.inr ⟨rfl, row_of_heap4 hh6⟩) rfl (Row.of_own ho76) (u8_oneCell _) (by omega) (by omega) (by unfold maxLen; omega) E6.size ?_)
        intro a8 c8 w8 ho8 hb8
        have E8 : Ext w4 w8 := E6.trans hb8
        refine ⟨fun _ => E8, ?_⟩
        go_simp
        refine wpY_l rfl rfl (owp_app _ _ rfl Try.elB rfl ho8 rfl (hr63 _ E8) oneDrop (by omega) (by unfold maxLen; omega) E8.size ?_)
        intro a9 c9 w9 ho9 hg9
        have E9 : Ext w4 w9 := below_app E8 ho8 hg9 E8.size
        refine ⟨fun _ => E9, ?_⟩
        go_simp
        ((refine wpY_q rfl rfl _ (fun w' hx' => by go_simp; try rfl) ?_; go_simp))
        refine wpY_nil (Meets.mk (by kernel_rfl) ⟨a9, _, c9, magicB ++ frameB y.s y.z.toNat y.l ++ l.drop 4, rfl, ?_, by omega, E9⟩)
        rw [List.map_append, List.map_append, List.map_drop]
        exact ho9
    · rintro a' w9 ⟨v, rfl, a9, n9, c9, l9, hv3, ho9, hn9, hx9⟩
      simp only [fill, hv3]
      go_simp
      clear hv3
      go_wp2
      go_ret
      exact ⟨a9, n9, c9, k4, l9, rfl, Bytes.of_own ho9, own_fresh (own_base ho9 hg04.size), by omega, ht4.ext hx9, by omega, grown_trans' hg04 (grown_extS g hx9)⟩
  · have hp0 : ((p : Int) == 0) = false := by simp; omega
    have hp1 : ((p : Int) == 1) = false := by simp; omega
    have hp2 : ((p : Int) == 2) = false := by simp; omega
    have hp3 : ((p : Int) == 3) = false := by simp; omega
    refine Stop.out ?_
    go_wp2
    go_ret
    exact ⟨a2, n2, c2, k1 + 1, l, rfl, hb3, hfr3, by omega, ht3, by omega, hg03⟩
end Go.Proofs.Ytncdcpaelecikaa
