/- Own work: the pen lays these octets. -/
import Derived.Test.YthdcblpadgdamaaGreatDoorTpLaid
set_option linter.all false
namespace Go.Proofs
open Go Go.Trw
theorem foldN_le {n : Int} (h : inK .i64 n) : foldN n ≤ 18446744073709551615 := by
  have := inK_i64.1 h; unfold foldN; split <;> omega
theorem numL_len {n : Int} (h : inK .i64 n) : (numL n).length ≤ 10 := packN_len10 (foldN_le h)
theorem idL_len {n : Int} (h : inK .u64 n) : (idL n).length ≤ 10 := packN_len10 (by have := inK_u64.1 h; omega)
theorem textL_len {N : Nat} {s : Str} (h : okS N s) (hN : N ≤ 16777216) : (textL s).length ≤ 10 + N := by
  unfold okS at h
  have := packN_len10 (n := s.length) (by omega)
  unfold textL; rw [List.length_append]; omega
theorem flat_len {α : Type} {f : α → Str} {B : Nat} : ∀ (l : List α), (∀ x ∈ l, (f x).length ≤ B) → ((l.map f).flatten).length ≤ l.length * B
  | [], _ => by simp
  | a :: l, h => by
    have h1 := flat_len l (fun x hx => h x (by simp [hx]))
    have h2 := h a (by simp)
    rw [List.map_cons, List.flatten_cons, List.length_append, List.length_cons, Nat.succ_mul]; omega
theorem listL_len {α : Type} {f : α → Str} {B N : Nat} {l : List α} (hN : N ≤ 16777216) (hl : l.length ≤ N) (h : ∀ x ∈ l, (f x).length ≤ B) : (listL f l).length ≤ 10 + N * B := by
  have h1 := packN_len10 (n := l.length) (by omega)
  have h2 := flat_len l h
  have h3 := Nat.mul_le_mul_right B hl
  unfold listL; rw [List.length_append]; omega
theorem whereL_len {N : Nat} {p : api_Pred} (h : PV 8 p) (ho : ok_Pred N p) : (whereL p).length ≤ 102410 := by
  have := (predT_px h).len ho
  have := textL_len (N := 102400) (s := predT p) (by unfold okS; omega) (by omega)
  unfold whereL; omega
theorem defL_len {d : api_Def} (h : ok_Def 70 d) (hw : d.Where.length ≤ 7) (hp : ∀ p ∈ d.Where, PV 8 p) : (defL d).length ≤ 800000 := by
  have h1 := textL_len h.name (by omega)
  have h2 := listL_len (f := textL) (B := 80) (by omega) h.globs.1 (fun x hx => textL_len (h.globs.2 x hx) (by omega))
  have h3 := listL_len (f := whereL) (B := 102410) (by omega) hw (fun x hx => whereL_len (hp x hx) (h.wher.2 x hx))
  have h4 := textL_len h.key (by omega)
  have h5 := textL_len h.j.kind (by omega)
  have h6 := numL_len h.j.parts
  have h7 := numL_len h.j.need
  have h8 := numL_len h.j.window
  unfold defL
  simp only [List.length_append]; omega
theorem offL_len {o : api_Off} (h : ok_Off 70 o) : (offL o).length ≤ 90 := by
  have h1 := textL_len h.topic (by omega)
  have h2 := numL_len h.next
  unfold offL; rw [List.length_append]; omega
theorem keptL_len {o : api_Kept} (h : ok_Kept o) : (keptL o).length ≤ 30 := by
  have h1 := numL_len h.part
  have h2 := idL_len h.id
  have h3 := numL_len h.at_
  unfold keptL; simp only [List.length_append]; omega
theorem valL_len {v : api_Value} (h : ok_Value 70 v) : (valL v).length ≤ 81 := by
  have h1 := packN_len10 (foldN_le h.1)
  have h2 := h.2
  unfold okS at h2
  have h3 := packN_len10 (n := v.S.length) (by omega)
  unfold valL
  split <;> simp <;> omega
theorem instL_len {x : api_Inst} (h : ok_Inst 70 x) : (instL x).length ≤ 2200 := by
  have h1 := valL_len h.key
  have h2 := listL_len (f := keptL) (B := 30) (by omega) h.l.1 (fun x hx => keptL_len (h.l.2 x hx))
  unfold instL; rw [List.length_append]; omega
theorem subL_len {u : api_Sub} (h : ok_Sub 70 u) (hw : u.D.Where.length ≤ 7) (hp : ∀ p ∈ u.D.Where, PV 8 p) : (subL u).length ≤ 1000000 := by
  have h1 := defL_len h.d hw hp
  have h2 := listL_len (f := offL) (B := 90) (by omega) h.offs.1 (fun x hx => offL_len (h.offs.2 x hx))
  have h3 := listL_len (f := instL) (B := 2200) (by omega) h.insts.1 (fun x hx => instL_len (h.insts.2 x hx))
  have h4 := numL_len h.fails
  have h5 := numL_len h.taken
  have h6 := numL_len h.passes
  have h7 := numL_len h.fires
  have h8 := numL_len h.over
  unfold subL nums5L; simp only [List.length_append]; omega
theorem topicL_len {t : api_Topic} (h : ok_Topic 900 t) (hl : t.Log.length ≤ 12) : (topicL t).length ≤ 12000 := by
  have h1 := textL_len h.name (by omega)
  have h2 := numL_len h.first
  have h3 := listL_len (f := textL) (B := 910) (by omega) hl (fun x hx => textL_len (h.log.2 x hx) (by omega))
  unfold topicL; simp only [List.length_append]; omega
theorem lastL_len {x : api_Last} (h : ok_Last 60 x) : (lastL x).length ≤ 90 := by
  have h1 := textL_len h.producer (by omega)
  have h2 := idL_len h.seq
  have h3 := numL_len h.offset
  unfold lastL; simp only [List.length_append]; omega
theorem outL_len {x : api_Out} (h : ok_Out 60 x) : (outL x).length ≤ 720 := by
  have h1 := idL_len h.id
  have h2 := textL_len h.sub (by omega)
  have h3 := listL_len (f := idL) (B := 10) (by omega) h.ids.1 (fun x hx => idL_len (h.ids.2 x hx))
  have h4 := numL_len h.tries
  have h5 := numL_len h.due
  unfold outL; simp only [List.length_append]; omega
theorem deadL_len {x : api_Dead} (h : ok_Dead 900 x) : (deadL x).length ≤ 1820 := by
  have h1 := textL_len h.sub (by omega)
  have h2 := textL_len h.e (by omega)
  unfold deadL; rw [List.length_append]; omega
theorem routerL_len {r : api_Router} (h : few_Router r) (hp : ∀ u ∈ r.Subs, ∀ p ∈ u.D.Where, PV 8 p) : (routerL r).length ≤ 16777216 := by
  have h1 := numL_len h.now
  have h2 := listL_len (f := topicL) (B := 12000) (by omega) h.topics.1 (fun x hx => topicL_len (h.topics.2 x hx).1 (h.topics.2 x hx).2)
  have h3 := listL_len (f := lastL) (B := 90) (by omega) h.lasts.1 (fun x hx => lastL_len (h.lasts.2 x hx))
  have h4 := listL_len (f := subL) (B := 1000000) (by omega) h.subs.1 (fun x hx => subL_len (h.subs.2 x hx).1 (h.subs.2 x hx).2 (hp x hx))
  have h5 := numL_len h.total
  have h6 := listL_len (f := outL) (B := 720) (by omega) h.out.1 (fun x hx => outL_len (h.out.2 x hx))
  have h7 := listL_len (f := outL) (B := 720) (by omega) h.given_.1 (fun x hx => outL_len (h.given_.2 x hx))
  have h8 := listL_len (f := deadL) (B := 1820) (by omega) h.dead.1 (fun x hx => deadL_len (h.dead.2 x hx))
  unfold routerL; simp only [List.length_append]; omega
theorem opL_len {o : api_Op} (h : few_Op o) (hp : opP o) : (opL o).length ≤ 16777216 := by
  have h1 := numL_len h.1.kind
  have h2 := textL_len h.1.s (by omega)
  have h3 := idL_len h.1.id
  have h4 := numL_len h.1.n
  have h5 : (boolL o.Ok).length = 1 := by unfold boolL; split <;> rfl
  have h6 : (if o.Kind = 2 then defL o.D else []).length ≤ 800000 := by
    split
    · exact defL_len h.2.1 h.2.2 (hp.d (by assumption))
    · simp
  unfold opL; simp only [List.length_append]; omega
/-! ### The pen -/
set_option maxRecDepth 100000 in
theorem u8or : ∀ m : Fin 256, ior .u8 (m.val : Int) 128 = ((m.val % 128 + 128 : Nat) : Int) := by decide
theorem wrapu8 (n : Nat) : IntKind.u8.wrap (n : Int) = ((n % 256 : Nat) : Int) := by
  simp [IntKind.wrap, IntKind.bits, IntKind.signed]
theorem ishr7 (k : Nat) : ishr .u64 (k : Int) 7 = ((k / 128 : Nat) : Int) := by
  unfold ishr
  rw [show (2 : Int) ^ (min (7 : Int).toNat IntKind.u64.bits) = 128 from rfl, Int.fdiv_eq_ediv_of_nonneg _ (by omega)]
  omega
theorem bytesS_app (l : List Int) (k : Nat) : bytesS (l ++ [(k : Int)]) = bytesS l ++ [UInt8.ofNat k] := by simp [bytesS]
theorem numPack {n : Int} (h : 0 ≤ n ∧ n ≤ 18446744073709551615) : Tot (num_Pack n) (fun r => r = packN n.toNat) := by
  have hl := packN_len10 (n := n.toNat) (by omega)
  unfold num_Pack
  refine Tot.gd (by omega) fun _ => ?_
  refine Tot.bind (Tot.loop (fun (v, l) => 0 ≤ v ∧ bytesS l ++ packN v.toNat = packN n.toNat) (fun (v, l) => v.toNat) ?_ ?_)
  · exact ⟨h.1, by simp [bytesS]⟩
  rintro ⟨v, l⟩ ⟨h1, h2⟩
  have hlen := congrArg List.length h2
  have hb : (bytesS l).length = l.length := by simp [bytesS]
  rw [List.length_append, hb] at hlen
  obtain ⟨k, rfl⟩ : ∃ k : Nat, v = k := ⟨v.toNat, by omega⟩
  have hp := packN_pos k
  rw [Int.toNat_natCast] at hlen h2
  dsimp only
  refine Tot.ite (fun c => Tot.gd (by simp; omega) fun _ => Tot.next ⟨?_, ?_⟩ ?_) (fun c => Tot.brk (Tot.gd (by simp; omega) fun _ => Tot.ret ?_))
  all_goals simp only [decide_eq_true_eq] at c
  all_goals try dsimp only
  · rw [ishr7]; omega
  · rw [ishr7, Int.toNat_natCast, wrapu8, ← h2, packN_ge (n := k) (by omega)]
    have := u8or ⟨k % 256, by omega⟩
    dsimp only at this
    rw [this, bytesS_app, show k % 256 % 128 = k % 128 by omega, List.append_assoc]
    rfl
  · rw [ishr7]; simp; omega
  · rw [← h2, packN_lt (by omega), wrapu8, bytesS_app, Nat.mod_eq_of_lt (by omega)]
theorem numFold {n : Int} (h : inK .i64 n) : num_Fold n = (foldN n : Int) := by
  have hn := inK_i64.1 h
  have sh : ∀ m : Int, 0 ≤ m → m ≤ 9223372036854775807 → ishl .u64 m 1 = 2 * m := fun m h0 h1 => by
    unfold ishl
    rw [show (2 : Int) ^ (min (1 : Int).toNat IntKind.u64.bits) = 2 from rfl, wrapu64 (by omega) (by omega)]; omega
  unfold num_Fold foldN
  split
  · rename_i c
    simp at c
    rw [wrapu64 (by omega) (by omega), sh _ (by omega) (by omega), if_pos c]; omega
  · rename_i c
    simp at c
    rw [wrap64 (n := n + 1) (by omega) (by omega), wrap64 (by omega) (by omega), wrapu64 (n := 0 - (n + 1)) (by omega) (by omega), sh _ (by omega) (by omega), wrapu64 (by omega) (by omega), if_neg (by omega)]
    omega
theorem bldStr {s b : Str} (h : b.length + s.length ≤ 16777216) : Tot (strings_Builder_WriteString s b) (fun r => r.2.2 = b ++ s) := by
  unfold strings_Builder_WriteString
  exact Tot.gd h fun _ => Tot.ret rfl
theorem penId {n : Int} {b : Str} (h : inK .u64 n) (hb : b.length + (idL n).length ≤ 16777216) : Tot (shelf_pen_id_o0 n b) (fun r => r = b ++ idL n) := by
  unfold shelf_pen_id_o0
  refine Tot.bind ((numPack (inK_u64.1 h)).mono fun x hx => ?_)
  subst hx
  exact Tot.bind ((bldStr hb).mono fun r hr => Tot.ret hr)
theorem penNumber {n : Int} {b : Str} (h : inK .i64 n) (hb : b.length + (numL n).length ≤ 16777216) : Tot (shelf_pen_number_o0 n b) (fun r => r = b ++ numL n) := by
  unfold shelf_pen_number_o0
  rw [numFold h]
  have := foldN_le h
  refine Tot.bind ((penId (inK_u64.2 (by omega)) ?_).mono fun r hr => Tot.ret hr)
  exact hb
theorem lenU {n : Nat} (h : n ≤ 16777216) : IntKind.u64.wrap (n : Int) = n := wrapu64 (by omega) (by omega)
theorem penText {s b : Str} (hb : b.length + (textL s).length ≤ 16777216) : Tot (shelf_pen_text_o0 s b) (fun r => r = b ++ textL s) := by
  unfold shelf_pen_text_o0
  unfold textL at *
  rw [List.length_append] at hb
  rw [lenU (by omega)]
  refine Tot.bind ((penId (inK_u64.2 (by omega)) ?_).mono fun r hr => ?_)
  · show b.length + (packN _).length ≤ _; rw [Int.toNat_natCast]; omega
  · subst hr
    unfold idL
    rw [Int.toNat_natCast]
    refine Tot.bind ((bldStr (by rw [List.length_append]; omega)).mono fun r hr => Tot.ret ?_)
    rw [hr, List.append_assoc]
theorem flat_part {α : Type} {f : α → Str} {x : α} : ∀ {l : List α}, x ∈ l → (f x).length ≤ (l.map f).flatten.length
  | a :: l, h => by
    rw [List.map_cons, List.flatten_cons, List.length_append]
    rw [List.mem_cons] at h
    rcases h with rfl | h
    · omega
    · have := flat_part (f := f) h; omega
theorem penList {α : Type} [Inhabited α] {put : α → Str → Option Str} {f : α → Str} {l : List α} {b : Str} (hput : ∀ x ∈ l, ∀ c : Str, c.length + (f x).length ≤ 16777216 → Tot (put x c) (fun r => r = c ++ f x)) (hl : l.length ≤ 16777216) (hb : b.length + (listL f l).length ≤ 16777216) :
    Tot ((shelf_pen_id_o0 (IntKind.u64.wrap (List.length l : Int)) b).bind fun x1 => ((loopO (fun (s21 : (Int × Str)) => match s21 with | (v7, v8) => (if (decide (v7 < (List.length l : Int))) then (if 0 ≤ v7 ∧ v7 < (List.length l : Int) then ((put (nth l v7) v8).bind fun x25 => (some (Sum.inl (IntKind.i64.wrap (v7 + (1 : Int)), x25)))) else none) else (some (Sum.inr v8))) : (Int × Str) → Option ((Int × Str) ⊕ Str)) ((0 : Int), x1)).bind fun v13 => (some (v13)))) (fun r => r = b ++ listL f l) := by
  unfold listL at *
  rw [List.length_append] at hb
  rw [lenU hl]
  refine Tot.bind ((penId (inK_u64.2 (by omega)) ?_).mono fun r hr => ?_)
  · show b.length + (packN _).length ≤ _; rw [Int.toNat_natCast]; omega
  subst hr
  unfold idL
  rw [Int.toNat_natCast]
  refine Tot.bind (Tot.loop (fun (i, c) => 0 ≤ i ∧ i ≤ (l.length : Int) ∧ c ++ ((l.drop i.toNat).map f).flatten = b ++ (packN l.length ++ (l.map f).flatten)) (fun (i, c) => (l.length - i).toNat) ?_ ?_)
  · exact ⟨by omega, by omega, by simp⟩
  rintro ⟨i, c⟩ ⟨h0, h1, h2⟩
  dsimp only
  refine Tot.ite (fun hc => Tot.gd (by simp at hc; omega) fun hi => ?_) (fun hc => Tot.brk (Tot.ret ?_))
  · have hd : l.drop i.toNat = nth l i :: l.drop (i.toNat + 1) := by
      rw [List.drop_eq_getElem_cons (by omega)]
      unfold nth
      rw [List.getD_eq_getElem?_getD, List.getElem?_eq_getElem (by omega)]
      rfl
    rw [hd, List.map_cons, List.flatten_cons] at h2
    have hlen := congrArg List.length h2
    simp only [List.length_append] at hlen
    refine Tot.bind ((hput (nth l i) (nth_mem hi.1 hi.2) c (by omega)).mono fun r hr => ?_)
    subst hr
    rw [wrap64 (by omega) (by omega)]
    refine Tot.next ⟨by omega, by omega, ?_⟩ (by dsimp only; omega)
    dsimp only
    rw [List.append_assoc, show (i + 1).toNat = i.toNat + 1 by omega]
    exact h2
  · simp at hc
    rw [List.drop_eq_nil_of_le (by omega)] at h2
    simpa using h2
theorem penListStr {l : List Str} {b : Str} (hl : l.length ≤ 16777216) (hb : b.length + (listL textL l).length ≤ 16777216) : Tot (shelf_list_string_o0__shelf_pen_text_o0 l b) (fun r => r = b ++ listL textL l) := by
  unfold shelf_list_string_o0__shelf_pen_text_o0
  exact penList (fun x _ c h => penText h) hl hb
end Go.Proofs
