/- drop, Free, Expire, Of, Held, New. -/
import Derived.Test.YtljdiaokjocfpaaLsD
namespace Go.Proofs.Ytljdiaokjocfpaa.Ls
open Go.RowKit Go.Proofs.Ytljdiaokjocfpaa.L Go.Proofs.Ytljdiaokjocfpaa.A Go.Proofs.Ytljdiaokjocfpaa.R Go.Proofs.Ytljdiaokjocfpaa.S Go.Proofs.Ytljdiaokjocfpaa.T
set_option linter.unusedVariables false
set_option linter.unusedSimpArgs false

def ToldH (P : Program) (fn : FuncId) (cap : Array Value) (q : Slt → Bool) (g : Nat) (w0 : World) : Prop :=
  ∀ (s : Slt) (w1 : World), Keep [g] w0 w1 → Calls P fn (#[.agg #[.int .i64 s.a, .int .i64 s.b, .int .i64 s.c, .int .i64 s.u]] ++ cap) w1 fun e w' => e = .returned (.bool (q s)) ∧ Below w1.heap.size w1 w'
def zeroS : Slt := ⟨0, 0, 0, 0, false⟩
def dropF (q : Slt → Bool) (s : Slt) : Slt := if s.on && q s then zeroS else s
def dropS (q : Slt → Bool) (ss : List Slt) : List Slt := ss.map (dropF q)
def dropL (q : Slt → Bool) (ss : List Slt) (k : Nat) : List Nat := (List.range k).filter fun i => (ss.getD i zeroS).on && q (ss.getD i zeroS)
def toI (l : List Nat) : List Int := l.map fun i : Nat => (i : Int)
def intsV (l : List Nat) : List Value := (toI l).map (Value.int .i64)
def dropT (q : Slt → Bool) (ss : List Slt) (k : Nat) : List Slt := (ss.take k).map (dropF q) ++ ss.drop k
theorem dropT_len (q : Slt → Bool) (ss : List Slt) (k : Nat) : (dropT q ss k).length = ss.length := by simp [dropT]; omega
theorem dropT_at (q : Slt → Bool) (ss : List Slt) (k : Nat) (h : k < ss.length) : (dropT q ss k)[k]'(by rw [dropT_len]; exact h) = ss[k] := by
  unfold dropT
  rw [List.getElem_append_right (by simp; omega)]
  simp [List.length_take, Nat.min_eq_left (Nat.le_of_lt h)]
theorem dropT_succ (q : Slt → Bool) (ss : List Slt) (k : Nat) (h : k < ss.length) : dropT q ss (k + 1) = (dropT q ss k).set k (dropF q ss[k]) := by
  unfold dropT
  rw [List.set_append_right _ _ (by simp; omega)]
  simp only [List.length_map, List.length_take, Nat.min_eq_left (Nat.le_of_lt h), Nat.sub_self]
  rw [List.drop_eq_getElem_cons h, List.set_cons_zero, List.take_succ_eq_append_getElem h, List.map_append]
  simp only [List.map_cons, List.map_nil, List.append_assoc, List.cons_append, List.nil_append]
theorem dropT_keep (q : Slt → Bool) (ss : List Slt) (k : Nat) (h : k < ss.length) (hq : (ss[k].on && q ss[k]) = false) : dropT q ss (k + 1) = dropT q ss k := by
  rw [dropT_succ q ss k h]
  have : dropF q ss[k] = (dropT q ss k)[k]'(by rw [dropT_len]; exact h) := by rw [dropT_at q ss k h]; simp [dropF, hq]
  rw [this]
  exact List.set_getElem_self _
theorem dropL_yes (q : Slt → Bool) (ss : List Slt) (k : Nat) (h : k < ss.length) (hq : (ss[k].on && q ss[k]) = true) : dropL q ss (k + 1) = dropL q ss k ++ [k] := by
  unfold dropL
  rw [List.range_succ, List.filter_append]
  congr 1
  simp only [List.filter_cons, List.filter_nil, List.getD_eq_getElem?_getD, List.getElem?_eq_getElem h, Option.getD_some, hq, if_true]
theorem dropL_no (q : Slt → Bool) (ss : List Slt) (k : Nat) (h : k < ss.length) (hq : (ss[k].on && q ss[k]) = false) : dropL q ss (k + 1) = dropL q ss k := by
  unfold dropL
  rw [List.range_succ, List.filter_append]
  have : ([k].filter fun i => (ss.getD i zeroS).on && q (ss.getD i zeroS)) = [] := by
    simp only [List.filter_cons, List.filter_nil, List.getD_eq_getElem?_getD, List.getElem?_eq_getElem h, Option.getD_some, hq, Bool.false_eq_true, if_false]
  rw [this, List.append_nil]
theorem dropL_le (q : Slt → Bool) (ss : List Slt) (k : Nat) : (dropL q ss k).length ≤ k := by
  have := List.length_filter_le (fun i => (ss.getD i zeroS).on && q (ss.getD i zeroS)) (List.range k)
  simpa [dropL] using this
theorem Tab.belowB {w w1 : World} {b g B : Nat} {ss : List Slt} (h : Tab w b g ss) (hk : Below B w w1) (hb : b < B) (hg : g < B) : Tab w1 b g ss :=
  ⟨(hk.block b hb).trans h.blk, (hk.block g hg).trans h.row, h.len⟩
theorem keep_belowB {w w1 w2 : World} {B : Nat} {S : List Nat} (h : Keep S w w1) (hk : Below B w1 w2) (hB : w.heap.size ≤ B) : Keep S w w2 :=
  ⟨hk.os.trans h.os, hk.tape.trans h.tape, hk.output.trans h.output, Nat.le_trans h.size hk.size, fun k hk1 hs => (hk.block k (by omega)).trans (h.block k hk1 hs)⟩
theorem below_app {B : Nat} {w5 w6 : World} {e : TypeId} {size n : Nat} {v : Value} {xs : List Value} {o : Obj} (ho : w5.ownsRow B e size v n xs) (hB : B ≤ w5.heap.size) (hg : (w5.alloc o).grownBy w6 v.ownBlock) : Below B w5 w6 :=
  ((Below.refl B w5).alloc hB o).trans (below_of_grown hg (by simp; omega) fun k hk => (ho.lt k hk).1)
theorem drop_nil (fn : FuncId) (cap : Array Value) (w : World) :
    Calls Try.prog 44 #[.pointer none, .func (.func fn) #[] cap] w fun e w' => e = .returned (.slice none 0 0) ∧ w = w' := by
  go_enter Try.func44, Try.ntmps44
  go_wp2
  go_ret
  exact ⟨rfl, rfl⟩
def DropPost (w : World) (b g : Nat) (q : Slt → Bool) (ss : List Slt) (e : Ending) (w' : World) : Prop :=
  ∃ v, e = .returned v ∧ w'.ownsRow w.heap.size 3 1 v (dropL q ss ss.length).length (intsV (dropL q ss ss.length)) ∧ Tab w' b g (dropS q ss) ∧ Keep [g] w w'
set_option maxHeartbeats 4000000 in
set_option maxRecDepth 100000 in
theorem drop_any (b g : Nat) (ss : List Slt) (fn : FuncId) (cap : Array Value) (q : Slt → Bool) (w : World) (h : Tab w b g ss) (hbd : Bodied Try.prog fn) (hf : ToldH Try.prog fn cap q g w) :
    Calls Try.prog 44 #[.pointer (some ⟨b, 0, none⟩), .func (.func fn) #[] cap] w (DropPost w b g q ss) := by
  obtain ⟨L, hL⟩ : ∃ L, Hid (ss.length = L) := ⟨_, Lib.hid rfl⟩
  have h0 := h.c0
  have hlen := h.len
  obtain ⟨hbl, hgl⟩ := h.lt
  rw [hL.out] at h0 hlen
  have HT := Lib.hid h
  have HF := Lib.hid hf
  unfold Bodied at hbd
  clear h hf
  go_enter Try.func44, Try.ntmps44
  go_wp2
  go_loopw [5, 15] (fun v i wr => ∃ k : Nat, k ≤ L ∧ i = .int .i64 k ∧ Tab wr b g (dropT q ss k) ∧ wr.ownsRow w.heap.size 3 1 v (dropL q ss k).length (intsV (dropL q ss k)) ∧ Keep [g] w wr) (fun _ i _ => L - (intOf i).toNat)
  case atStart => exact ⟨0, by omega, rfl, by simpa [dropT] using HT.out, World.ownsRow_nil _ _ _ _, Keep.refl _ _⟩
  case round =>
    obtain ⟨k, hk, rfl, hT, ho, hK⟩ := hrel
    by_cases hlt : k < L
    · have hkl : k < ss.length := by have := hL.out; omega
      obtain ⟨s, hs⟩ : ∃ s, Hid (ss[k] = s) := ⟨_, Lib.hid rfl⟩
      have hTl : Hid ((dropT q ss k).length = L) := Lib.hid ((dropT_len q ss k).trans hL.out)
      obtain ⟨c0, c1, c2, c3, c4⟩ := hT.cells (i := k) (by rw [hTl.out]; exact hlt) s ((dropT_at q ss k hkl).trans hs.out)
      have hcall := Lib.hid fun w1 (h1 : Keep [g] wr w1) => HF.out s w1 (hK.trans h1)
      have hT0 := hT.c0
      rw [hTl.out] at hT0
      obtain ⟨hbl', hgl'⟩ := hT.lt
      have HT2 := Lib.hid hT
      obtain ⟨m, hm⟩ : ∃ m, Hid ((dropL q ss k).length = m) := ⟨_, Lib.hid rfl⟩
      have hmk := dropL_le q ss k
      rw [hm.out] at ho hmk
      have HO := Lib.hid ho
      have Hyes := Lib.hid (dropL_yes q ss k hkl)
      have Hno := Lib.hid (dropL_no q ss k hkl)
      have Hkeep := Lib.hid (dropT_keep q ss k hkl)
      have Hsucc := Lib.hid (dropT_succ q ss k hkl)
      rw [hs.out] at Hyes Hno Hkeep Hsucc
      clear hT ho
      obtain ⟨sa, sb, sc, su, on⟩ := s
      dsimp only at c0 c1 c2 c3 c4 hcall
      cases on
      · go_wp2
        go_roundw
        case rel => exact ⟨k + 1, by omega, by go_num, by rw [Hkeep.out rfl]; exact HT2.out.below (below_alloc _ _), by rw [Hno.out rfl, hm.out]; exact HO.out.alloc _, hK.alloc _⟩
        case measure => simp [intOf]; omega
      · obtain ⟨r, hr⟩ : ∃ r, Hid (q ⟨sa, sb, sc, su, true⟩ = r) := ⟨_, Lib.hid rfl⟩
        rw [hr.out] at hcall
        cases r
        · go_wp2_with fail
          refine (hcall.out _ (Keep.of_below (below_alloc _ _))).mono ?_
          rintro e w2 ⟨rfl, hb2⟩
          have hb3 := below2 (below_alloc _ _) hb2
          go_wp2
          go_roundw
          case rel => exact ⟨k + 1, by omega, by go_num, by rw [Hkeep.out (by simp [hr.out])]; exact HT2.out.below hb3, by rw [Hno.out (by simp [hr.out]), hm.out]; exact own_kept HO.out hb3, hK.trans (Keep.of_below hb3)⟩
          case measure => simp [intOf]; omega
        · go_wp2_with fail
          refine (hcall.out _ (Keep.of_below (below_alloc _ _))).mono ?_
          rintro e w2 ⟨rfl, hb2⟩
          have hb3 := below2 (below_alloc _ _) hb2
          have hz := HT2.out.below hb3
          have hz0 := cell_below hb3 hT0
          have ho2 := own_kept HO.out hb3
          have HB3 := Lib.hid hb3
          have HZ := Lib.hid hz
          have hsz := hb3.size
          have hbs : Hid (w.heap.size ≤ w2.heap.size) := Lib.hid (Nat.le_trans hK.size hsz)
          clear hz hb3 hb2 c0 c1 c2 c3 c4 hT0
          go_wp2_with (refine wpList_store_blk rfl 91 (.tmp 34) (.tmp 33) rfl g (k * 5) rfl 91 (encAll (dropT q ss k)).toArray (.agg zeroS.enc.toArray) rfl HZ.out.row slot_size (by show k * 5 + 5 ≤ _; rw [List.size_toArray, encAll_len, hTl.out]; omega) (by simp [Slt.enc, Value.cells, Value.oneCell']) _ (take_enc (dropT q ss k) k (by rw [hTl.out]; exact hlt) _) ?_)
          intro w5 hg5 hu5
          have hz5 := Lib.hid (HZ.out.put k (by rw [hTl.out]; exact hlt) zeroS hg5 hu5)
          have ho5 := own_keep ho2 (keep_upd hu5) (fun blk h1 h2 => by have := (ho2.lt blk h1).1; simp at h2; omega)
          have HO5 := Lib.hid ho5
          have hK5 := Lib.hid ((hK.trans (Keep.of_below HB3.out)).trans (keep_upd hu5))
          have hs5 : w.heap.size ≤ w5.heap.size := hK5.out.size
          have hbs5 : w.heap.size ≤ (w5.alloc (.cells #[.int .i64 (k : Int)] 3)).heap.size := by simp; omega
          clear hg5 hu5 ho2
          go_wp2_with (at_builtin; refine wpList_append_src _ rfl (.tmp 35) (.tmp 37) w.heap.size 35 3 (.int .i64 0) 1 8 rfl (by kernel_rfl) (by kernel_rfl) rfl (by decide) (by decide) _ m _ rfl (ho5.alloc _) (some ⟨w5.heap.size, 0, none⟩) 1 1 rfl (fun h => by cases h) [.int .i64 (k : Int)] rfl (lies_block (heap_alloc_new _ _)) (by simp [Value.oneCell']) (by omega) hbs5 ?_; intro v1 w6 ho6 hg6 hv6)
          have hb6 := below_app HO5.out hs5 hg6
          go_roundw
          case rel => exact ⟨k + 1, by omega, by go_num, by rw [Hsucc.out]; simp only [dropF, hr.out, Bool.and_self, if_true]; exact hz5.out.belowB hb6 hbl hgl, by rw [Hyes.out (by simp [hr.out]), List.length_append, hm.out]; simpa [intsV, toI] using ho6, keep_belowB hK5.out hb6 (Nat.le_refl _)⟩
          case measure => simp [intOf]; omega
    · have hke : k = L := by omega
      subst hke
      have HT3 := Lib.hid hT
      have HO := Lib.hid ho
      clear hT ho hlt hk
      go_wp2
      go_ret
      exact ⟨_, rfl, by rw [hL.out]; exact HO.out, by have := HT3.out; unfold dropT at this; rw [List.take_of_length_le (by rw [hL.out]; exact Nat.le_refl _), List.drop_eq_nil_of_le (by rw [hL.out]; exact Nat.le_refl _), List.append_nil] at this; exact this, hK⟩
end Go.Proofs.Ytljdiaokjocfpaa.Ls
