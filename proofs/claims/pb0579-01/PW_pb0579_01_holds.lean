import PyProof.Rows.All
import Wide.All
import OpenK.AllK
import Wide.FinOn
import PySem.Challenge.RW_pb0579_01
/-! pb0579-01: the law of zap_hash. Parts: the plain law (numbers alone); the head; one contract a def; the law's own walk. -/
open PySem PySem.W PySem.Spec PySem.Calls PyProof.Rows
set_option Elab.async false
set_option maxRecDepth 100000
set_option maxHeartbeats 8000000
namespace Mine
/-- the signs of a text are all from the blank to ~ -/
def Small (x : Str) : Prop := ∀ c ∈ KStt.codes x, 32 ≤ c ∧ c ≤ 126
/-- a number below 2 ** 32 -/
def W (x : Int) : Prop := 0 ≤ x ∧ x < 4294967296
def step (a : Int) (c : Int) : Int := (Builtin.bitXor a c * 16777619).fmod (2 ^ (32 : Int).toNat)
def fin1 (a : Int) : Int := (Builtin.bitXor a (a.fdiv (2 ^ (15 : Int).toNat)) * 2246822519).fmod (2 ^ (32 : Int).toNat)
def fin2 (a : Int) : Int := (Builtin.bitXor a (a.fdiv (2 ^ (13 : Int).toNat)) * 3266489917).fmod (2 ^ (32 : Int).toNat)
def fin3 (a : Int) : Int := Builtin.bitXor a (a.fdiv (2 ^ (16 : Int).toNat))
def mix (l : List Int) (salt : Int) : Int := l.foldl step (Builtin.bitXor salt 2654435769)
theorem mix_nil (salt : Int) : Builtin.bitXor salt 2654435769 = mix [] salt := rfl
theorem mix_snoc' (l : List Int) (salt c : Int) : mix (l ++ [c]) salt = step (mix l salt) c := by
  simp [mix, List.foldl_append]
theorem mix_snoc {l : List Int} {salt a c : Int} (h : a = mix l salt) : step a c = mix (l ++ [c]) salt := by
  rw [mix_snoc', h]
def zap (x : Str) (salt : Int) : Int := fin3 (fin2 (fin1 (mix (KStt.codes x) salt)))
def fbits (told bits : Int) : Int := told.fdiv (2 ^ (32 - bits).toNat)
def saltOf (n : Int) : Int := (n * 2654435761 + 40503).fmod (2 ^ (32 : Int).toNat)
def inv1 (f a : Int) : Int := (a * (2 - f * a)).fmod (2 ^ (32 : Int).toNat)
def inv (f : Int) : Int := inv1 f (inv1 f (inv1 f (inv1 f f)))
def un16 (n : Int) : Int := Builtin.bitXor n ((Builtin.bitXor n (n.fdiv (2 ^ Int.toNat 16))).fdiv (2 ^ Int.toNat 16))
def un13 (n : Int) : Int := Builtin.bitXor n ((Builtin.bitXor n (n.fdiv (2 ^ Int.toNat 13))).fdiv (2 ^ Int.toNat 13))
def un15 (n : Int) : Int := Builtin.bitXor n ((Builtin.bitXor n (n.fdiv (2 ^ Int.toNat 15))).fdiv (2 ^ Int.toNat 15))
theorem zap_of {x : Str} {salt a : Int} (h : a = mix (KStt.codes x) salt) : fin3 (fin2 (fin1 a)) = zap x salt := by subst h; rfl
theorem inv_a : inv 3266489917 = 2828982549 := by decide +kernel
theorem inv_b : inv 2246822519 = 3066638151 := by decide +kernel
theorem inv_c : inv 16777619 = 899433627 := by decide +kernel
theorem inv_d : inv 2654435761 = 244002641 := by decide +kernel
/-- a sign taken back -/
def back (a : Int) (c : Int) : Int := Builtin.bitXor ((a * 899433627).fmod (2 ^ (32 : Int).toNat)) c
def unmix (l : List Int) (a : Int) : Int := l.foldl back a
theorem unmix_nil (a : Int) : a = unmix [] a := rfl
theorem unmix_snoc {l : List Int} {b a c : Int} (h : b = unmix l a) : back b c = unmix (l ++ [c]) a := by
  subst h; simp [unmix, List.foldl_append]
def un (told : Int) : Int := un15 ((un13 ((un16 told * 2828982549).fmod (2 ^ (32 : Int).toNat)) * 3066638151).fmod (2 ^ (32 : Int).toNat))
/-- the salt that the law comes back to; l: the signs from behind -/
def unsalt (told : Int) (l : List Int) : Int := Builtin.bitXor (unmix l (un told)) 2654435769

/-! ### xor -/
theorem nat_xor (x : Nat) : ∀ y : Nat, x + y = (x ^^^ y) + 2 * (x &&& y) := by
  induction x using Nat.strongRecOn with
  | _ x ih =>
    intro y
    by_cases hx : x = 0
    · subst hx; simp
    · have h := ih (x / 2) (by omega) (y / 2)
      have e2 := @Nat.xor_div_two x y
      have e3 := @Nat.and_div_two x y
      have m2 := @Nat.xor_mod_two_eq_one x y
      have m3 := @Nat.and_mod_two_eq_one x y
      rw [← e2, ← e3] at h
      generalize x ^^^ y = q at *
      generalize x &&& y = d at *
      have hx2 : x % 2 = 0 ∨ x % 2 = 1 := by omega
      have hy2 : y % 2 = 0 ∨ y % 2 = 1 := by omega
      rcases hx2 with hx2 | hx2 <;> rcases hy2 with hy2 | hy2 <;> simp [hx2, hy2] at m2 m3 <;> omega
theorem bx_nat (a b : Nat) : Builtin.bitXor (a : Int) (b : Int) = ((a ^^^ b : Nat) : Int) := by
  have h1 : Builtin.bitAnd (a : Int) (b : Int) = ((a &&& b : Nat) : Int) := by rw [bitAnd_pp (by omega) (by omega)]; rfl
  have h2 := nat_xor a b
  rw [bitXor_and, h1]
  omega
theorem sh_nat (a k : Nat) : (a : Int).fdiv (2 ^ k) = ((a >>> k : Nat) : Int) := by
  rw [Int.fdiv_eq_ediv_of_nonneg _ (Int.le_of_lt (kbt_pos k)), Nat.shiftRight_eq_div_pow, ← kbt_cast, Int.natCast_ediv]
theorem nat_of {x : Int} (h : W x) : ∃ n : Nat, n < 2 ^ 32 ∧ x = n := ⟨x.toNat, by have := h.1; have := h.2; omega, by have := h.1; omega⟩
theorem w_nat {n : Nat} (h : n < 2 ^ 32) : W (n : Int) := ⟨by omega, by have : (2 : Nat) ^ 32 = 4294967296 := by decide
                                                                        omega⟩
theorem bx_W {a b : Int} (ha : W a) (hb : W b) : W (Builtin.bitXor a b) := by
  obtain ⟨n, hn, rfl⟩ := nat_of ha
  obtain ⟨m, hm, rfl⟩ := nat_of hb
  rw [bx_nat]
  exact w_nat (Nat.xor_lt_two_pow hn hm)
theorem bx_back {a b : Int} (ha : W a) (hb : W b) : Builtin.bitXor (Builtin.bitXor a b) b = a := by
  obtain ⟨n, hn, rfl⟩ := nat_of ha
  obtain ⟨m, hm, rfl⟩ := nat_of hb
  rw [bx_nat, bx_nat, Nat.xor_assoc, Nat.xor_self, Nat.xor_zero]
theorem bx_inj {a b c : Int} (ha : W a) (hb : W b) (hc : W c) (h : Builtin.bitXor a b = Builtin.bitXor a c) : b = c := by
  obtain ⟨n, hn, rfl⟩ := nat_of ha
  obtain ⟨m, hm, rfl⟩ := nat_of hb
  obtain ⟨k, hk, rfl⟩ := nat_of hc
  rw [bx_nat, bx_nat] at h
  have h' : n ^^^ m = n ^^^ k := Int.ofNat.inj h
  have e : n ^^^ (n ^^^ m) = n ^^^ (n ^^^ k) := by rw [h']
  rw [← Nat.xor_assoc, ← Nat.xor_assoc, Nat.xor_self, Nat.zero_xor, Nat.zero_xor] at e
  rw [e]
/-- a shift and turn -/
def turn (k : Nat) (a : Int) : Int := Builtin.bitXor a (a.fdiv (2 ^ k))
def unturn (k : Nat) (n : Int) : Int := Builtin.bitXor n ((Builtin.bitXor n (n.fdiv (2 ^ k))).fdiv (2 ^ k))
theorem turn_W {a : Int} {k : Nat} (ha : W a) : W (turn k a) := by
  obtain ⟨n, hn, rfl⟩ := nat_of ha
  unfold turn
  rw [sh_nat, bx_nat]
  exact w_nat (Nat.xor_lt_two_pow hn (Nat.lt_of_le_of_lt (Nat.shiftRight_le n k) hn))
theorem unturn_W {a : Int} {k : Nat} (ha : W a) : W (unturn k a) := by
  obtain ⟨n, hn, rfl⟩ := nat_of ha
  unfold unturn
  rw [sh_nat, bx_nat, sh_nat, bx_nat]
  refine w_nat (Nat.xor_lt_two_pow hn (Nat.lt_of_le_of_lt (Nat.shiftRight_le _ k) (Nat.xor_lt_two_pow hn (Nat.lt_of_le_of_lt (Nat.shiftRight_le n k) hn))))
theorem unturn_turn {a : Int} {k : Nat} (ha : W a) (hk : 11 ≤ k) : unturn k (turn k a) = a := by
  obtain ⟨n, hn, rfl⟩ := nat_of ha
  have h0 : n >>> k >>> k >>> k = 0 := by
    rw [← Nat.shiftRight_add, ← Nat.shiftRight_add, Nat.shiftRight_eq_div_pow]
    exact Nat.div_eq_of_lt (Nat.lt_of_lt_of_le hn (Nat.pow_le_pow_right (by decide) (by omega)))
  unfold turn unturn
  rw [sh_nat, bx_nat, sh_nat, bx_nat, sh_nat, bx_nat]
  have h1 : (n ^^^ n >>> k) ^^^ (n ^^^ n >>> k) >>> k = n ^^^ n >>> k >>> k := by
    rw [Nat.shiftRight_xor_distrib, Nat.xor_assoc, ← Nat.xor_assoc (n >>> k), Nat.xor_self, Nat.zero_xor]
  rw [h1, Nat.shiftRight_xor_distrib, h0, Nat.xor_zero, Nat.xor_assoc, Nat.xor_self, Nat.xor_zero]

/-! ### products -/
theorem p32 : (2 : Int) ^ (32 : Int).toNat = 4294967296 := by decide
theorem fm (a : Int) : a.fmod (2 ^ (32 : Int).toNat) = a % 4294967296 := by
  rw [p32, Int.fmod_eq_emod_of_nonneg _ (by decide)]
theorem fm_W (a : Int) : W (a.fmod (2 ^ (32 : Int).toNat)) := by
  rw [fm]; exact ⟨Int.emod_nonneg _ (by decide), Int.emod_lt_of_pos _ (by decide)⟩
theorem mul_back {x c d : Int} (hx : W x) (h : (c * d) % 4294967296 = 1) : ((x * c).fmod (2 ^ (32 : Int).toNat) * d).fmod (2 ^ (32 : Int).toNat) = x := by
  rw [fm, fm, Int.mul_emod, Int.emod_emod_of_dvd _ (Int.dvd_refl _), ← Int.mul_emod, Int.mul_assoc, Int.mul_emod, h, Int.mul_one, Int.emod_emod_of_dvd _ (Int.dvd_refl _)]
  exact Int.emod_eq_of_lt hx.1 hx.2

/-! ### the hash undone -/
theorem k_W : W 2654435769 := by unfold W; decide
theorem c_W {c : Int} (h : 32 ≤ c ∧ c ≤ 126) : W c := ⟨by omega, by omega⟩
theorem step_W (a c : Int) : W (step a c) := fm_W _
theorem step_back {a c : Int} (ha : W a) (hc : W c) : back (step a c) c = a := by
  unfold back step
  rw [mul_back (bx_W ha hc) (by decide), bx_back ha hc]
theorem mix_W {l : List Int} {salt : Int} (hs : W salt) : W (mix l salt) := by
  rcases List.eq_nil_or_concat l with rfl | ⟨l', c, rfl⟩
  · exact bx_W hs k_W
  · rw [List.concat_eq_append, mix_snoc']
    exact step_W _ _
theorem unmix_mix {salt : Int} (hs : W salt) : ∀ r : List Int, (∀ c ∈ r, 32 ≤ c ∧ c ≤ 126) → unmix r (mix r.reverse salt) = Builtin.bitXor salt 2654435769
  | [], _ => rfl
  | c :: r, h => by
    rw [List.reverse_cons, mix_snoc']
    show unmix r (back (step (mix r.reverse salt) c) c) = _
    rw [step_back (mix_W hs) (c_W (h c (.head _)))]
    exact unmix_mix hs r fun d hd => h d (.tail _ hd)
theorem un_fin {a : Int} (ha : W a) : un (fin3 (fin2 (fin1 a))) = a := by
  have w2 : W (fin2 (fin1 a)) := fm_W _
  have w1 : W (fin1 a) := fm_W _
  have e3 : un16 (fin3 (fin2 (fin1 a))) = fin2 (fin1 a) := unturn_turn (k := 16) w2 (by decide)
  have e2 : (fin2 (fin1 a) * 2828982549).fmod (2 ^ (32 : Int).toNat) = turn 13 (fin1 a) := mul_back (turn_W w1) (by decide)
  have e2' : un13 (turn 13 (fin1 a)) = fin1 a := unturn_turn (k := 13) w1 (by decide)
  have e1 : (fin1 a * 3066638151).fmod (2 ^ (32 : Int).toNat) = turn 15 a := mul_back (turn_W ha) (by decide)
  unfold un
  rw [e3, e2, e2', e1]
  exact unturn_turn (k := 15) ha (by decide)
theorem zap_W (x : Str) (salt : Int) : W (zap x salt) := turn_W (fm_W _)
theorem un_zap {x : Str} {salt : Int} (hs : W salt) : un (zap x salt) = mix (KStt.codes x) salt := un_fin (mix_W hs)
theorem unsalt_zap {x : Str} {salt : Int} (hs : W salt) (hx : Small x) : unsalt (zap x salt) (KStt.codes x).reverse = salt := by
  unfold unsalt
  rw [un_zap hs]
  have h := unmix_mix hs (KStt.codes x).reverse (fun c hc => hx c (List.mem_reverse.mp hc))
  rw [List.reverse_reverse] at h
  rw [h, bx_back hs k_W]
/-- two salts never give a name one hash -/
theorem zap_salts {x : Str} {s t : Int} (hs : W s) (ht : W t) (hx : Small x) (h : zap x s = zap x t) : s = t := by
  rw [← unsalt_zap hs hx, h, unsalt_zap ht hx]
theorem step_inj {a b c : Int} (ha : W a) (hb : W b) (hc : W c) (h : step a c = step b c) : a = b := by
  rw [← step_back ha hc, h, step_back hb hc]
theorem mix_tail_inj {a b : Int} (ha : W a) (hb : W b) : ∀ l : List Int, (∀ c ∈ l, 32 ≤ c ∧ c ≤ 126) → l.foldl step a = l.foldl step b → a = b := by
  intro l
  induction l generalizing a b with
  | nil => intro _ h; exact h
  | cons c l ih =>
    intro hl h
    rw [List.foldl_cons, List.foldl_cons] at h
    exact step_inj ha hb (c_W (hl c (.head _))) (ih (step_W _ _) (step_W _ _) (fun d hd => hl d (.tail _ hd)) h)
theorem step_sign {a c d : Int} (ha : W a) (hc : W c) (hd : W d) (h : step a c = step a d) : c = d := by
  have e : ∀ c, W c → Builtin.bitXor a c = (step a c * 899433627).fmod (2 ^ (32 : Int).toNat) := fun c hc => (mul_back (bx_W ha hc) (by decide)).symm
  exact bx_inj ha hc hd (by rw [e c hc, e d hd, h])
/-- two names with just one sign otherwise never have the same hash -/
theorem zap_signs {x y : Str} {s : Int} {l r : List Int} {c d : Int} (hs : W s) (hx : Small x) (hy : Small y) (ex : KStt.codes x = l ++ c :: r) (ey : KStt.codes y = l ++ d :: r)
    (h : zap x s = zap y s) : c = d := by
  have e : mix (KStt.codes x) s = mix (KStt.codes y) s := by rw [← un_zap hs, ← un_zap hs, h]
  rw [ex, ey] at e
  have hc : W c := c_W (hx c (by rw [ex]; simp))
  have hd : W d := c_W (hy d (by rw [ey]; simp))
  unfold mix at e
  rw [List.foldl_append, List.foldl_append, List.foldl_cons, List.foldl_cons] at e
  exact step_sign (mix_W hs) hc hd (mix_tail_inj (step_W _ _) (step_W _ _) r (fun b hb => hx b (by rw [ex]; simp [hb])) e)

/-! ### the first bits, the salts -/
theorem fbits_0 {t : Int} (h : W t) : fbits t 0 = 0 := by
  unfold fbits
  rw [show (32 - (0 : Int)).toNat = (32 : Int).toNat from rfl, p32, Int.fdiv_eq_ediv_of_nonneg _ (by decide)]
  exact Int.ediv_eq_zero_of_lt h.1 h.2
theorem fbits_32 (t : Int) : fbits t 32 = t := by
  unfold fbits
  rw [show (32 - (32 : Int)).toNat = 0 from rfl, Int.pow_zero]
  simp
theorem fbits_half {t b : Int} (h0 : 0 ≤ b) (h1 : b < 32) : (fbits t (b + 1)).fdiv 2 = fbits t b := by
  obtain ⟨k, hk⟩ : ∃ k : Nat, (32 - (b + 1)).toNat = k := ⟨_, rfl⟩
  have hk' : (32 - b).toNat = k + 1 := by omega
  unfold fbits
  rw [hk, hk', Int.fdiv_eq_ediv_of_nonneg _ (by decide), Int.fdiv_eq_ediv_of_nonneg _ (Int.le_of_lt (kbt_pos k)), Int.fdiv_eq_ediv_of_nonneg _ (Int.le_of_lt (kbt_pos (k + 1))), Int.pow_succ]
  have hp := kbt_pos k
  rw [Int.ediv_ediv, if_neg (by omega), Int.sub_zero]
theorem salt_W (n : Int) : W (saltOf n) := fm_W _
theorem salt_back {n : Int} (h : W n) : ((saltOf n - 40503) * 244002641).fmod (2 ^ (32 : Int).toNat) = n := by
  unfold saltOf
  have := h.1; have := h.2
  rw [fm, fm]
  omega
theorem salt_turn (n : Int) : saltOf (n + 2 ^ (32 : Int).toNat) = saltOf n := by
  unfold saltOf
  rw [fm, fm, p32]
  omega
theorem codes_rev (x : Str) (u : Tok) : KStt.codes (Txt.sliceBy x none none (-1, u)) = (KStt.codes x).reverse := by
  unfold KStt.codes
  rw [step_rev_list, ← List.map_reverse]
  congr 1
  refine List.ext_getElem (by simp [Str.length]) fun i h1 h2 => ?_
  have h : i < x.cps.size := by simpa [Str.length] using h1
  have h3 : x.cps.size - 1 - i < x.cps.size := by omega
  simp [Str.length, Array.getD, h3]
theorem unsalt_of {x : Str} {u : Tok} {a told : Int} (h : a = unmix (KStt.codes (Txt.sliceBy x none none (-1, u))) (un told)) : Builtin.bitXor a 2654435769 = unsalt told (KStt.codes x).reverse := by
  rw [h, codes_rev]; rfl
theorem und1 {x : Str} {salt : Int} (hx : Small x) (hs : W salt) (h : unsalt (zap x salt) (KStt.codes x).reverse ≠ salt) : False := h (unsalt_zap hs hx)
theorem und2 {t k : Int} (h : fbits t k ≠ t.fdiv (2 ^ (32 - k).toNat)) : False := h rfl
theorem und3 {t k : Int} {l : List Int} (e : k = 0 + (l.length : Int)) (hl : l.length < (32 - 0 : Int).toNat) (h : (fbits t (k + 1)).fdiv 2 ≠ fbits t k) : False :=
  h (fbits_half (by omega) (by omega))
theorem und5 {x : Str} {salt : Int} (h : ¬ [fbits (zap x salt) 0, fbits (zap x salt) 32] = [0, zap x salt]) : False := h (by rw [fbits_0 (zap_W x salt), fbits_32])
theorem und6 {x : Str} {salt : Int} (h : ¬ zap x salt < 2 ^ Int.toNat 32) : False := h (by rw [p32]; exact (zap_W x salt).2)
end Mine
namespace Mine
open_top hd for PySem.Challenge.rw_pb0579_01
end Mine
namespace Mine
def Cl (lv : Nat) (w : World) (f : Addr) (vs : List Value) (pre post : Prop) (R : Tok → Value) : Prop :=
  ∀ (mean : ExcName → Option Value) (mg mb : Str → Option Value) (dp un : Nat) (gd : Option (List Code)) (cn : Str) (cs : Scope) (a : Addr) (ccd : Value) (cl : List (Str × Addr)) (outer : List Env) (A₀ : Around) (base h₀ : Heap) (L : Addr) (m : Str → Option Value) (news : List (Addr × Obj)) (s : Shared) (Q E : Value → Shared → Prop),
    Below A₀ base outer h₀ → Fr h₀ L s.heap m → (hd.heap_39 w.params).In h₀ → News h₀ L s.heap news → Top hd.view_39 (looseW hd.view_39 []) mean mg mb h₀ → cs.kind = .function →
    pre → dp + 2 * lv < recursionLimit → un + 100 * lv < cLine → (∀ (t : Tok) (h' : Heap) (tk' : Nat), post → Fr h₀ L h' m → News h₀ L h' news → Q (R t) { s with heap := h', toks := tk' }) →
    wpAny (model PySem.Challenge.rw_pb0579_01.row.prog w) (ktrTop dp un gd cn cs L a ccd cl outer) (call (.ref f) vs) Q E s
theorem cl_use {lv : Nat} {w : World} {f : Addr} {vs : List Value} {pre post : Prop} {R : Tok → Value} (C : Cl lv w f vs pre post R)
    {mean : ExcName → Option Value} {mg mb : Str → Option Value} {dp un : Nat} {gd : Option (List Code)} {cn : Str} {cs : Scope} {a : Addr} {ccd : Value} {cl : List (Str × Addr)} {outer : List Env} {A₀ : Around} {base h₀ : Heap} {L : Addr} {m : Str → Option Value} {news : List (Addr × Obj)} {s : Shared} {Q E : Value → Shared → Prop}
    (B : Below A₀ base outer h₀) (F : Fr h₀ L s.heap m) (X : (hd.heap_39 w.params).In h₀) (N : News h₀ L s.heap news) (T : Top hd.view_39 (looseW hd.view_39 []) mean mg mb h₀) (hk : cs.kind = .function)
    (hp : pre) (hd' : dp + 2 * lv < recursionLimit) (hu : un + 100 * lv < cLine) (ret : ∀ (t : Tok) (h' : Heap) (tk' : Nat), post → Fr h₀ L h' m → News h₀ L h' news → Q (R t) { s with heap := h', toks := tk' }) :
    wpAny (model PySem.Challenge.rw_pb0579_01.row.prog w) (ktrTop dp un gd cn cs L a ccd cl outer) (call (.ref f) vs) Q E s :=
  C mean mg mb dp un gd cn cs a ccd cl outer A₀ base h₀ L m news s Q E B F X N T hk hp hd' hu ret
section
variable {h₀ h' : Heap} {L : Addr} {m : Str → Option Value} {news : List (Addr × Obj)} {s : Shared} {Q : Value → Shared → Prop} {t : Tok} {tk' : Nat} {post : Prop}
theorem ret_int {v y : Int} (hret : ∀ (t : Tok) (h' : Heap) (tk' : Nat), post → Fr h₀ L h' m → News h₀ L h' news → Q (.int v t) { s with heap := h', toks := tk' }) (e : y = v) (hp : post) (F : Fr h₀ L h' m) (N : News h₀ L h' news) : Q (.int y t) { s with heap := h', toks := tk' } := by
  subst e; exact hret t h' tk' hp F N
theorem ret_bool {v y : Bool} (hret : ∀ (t : Tok) (h' : Heap) (tk' : Nat), post → Fr h₀ L h' m → News h₀ L h' news → Q (.bool v) { s with heap := h', toks := tk' }) (e : y = v) (hp : post) (F : Fr h₀ L h' m) (N : News h₀ L h' news) : Q (.bool y) { s with heap := h', toks := tk' } := by
  subst e; exact hret 0 h' tk' hp F N
end
theorem unr_mine {h₀ : Heap} {L I : Addr} {it : Obj} {rest : (Str → Option Value) → List (Addr × Obj) → Prop} {s₁ : Shared} {h' : Heap} {tk : Nat} {m' : Str → Option Value} {news : List (Addr × Obj)}
    (F : Fr h₀ L h' m') (N : News h₀ L h' ((I, it) :: news)) (l1 : ∀ p ∈ news, p.1 < I) (r : rest m' news) : UnrEnd h₀ L s₁ I it rest { s₁ with heap := h', toks := tk } :=
  UnrEnd.intro F N news (fun _ hp => hp) (fun p hp => Nat.ne_of_lt (l1 p hp)) r
end Mine
namespace Mine
local macro_rules | `(tactic| walk_at "UnrEnd") => `(tactic| (refine unr_mine (by assumption) (by assumption) (by assumption) ?_))
theorem cl_first (w : World) (t b : Int) (tt tb : Tok) : Cl 1 w 28 [.int t tt, .int b tb] ((0 ≤ t ∧ t < 4294967296) ∧ 0 ≤ b ∧ b ≤ 32) True (fun k => .int (fbits t b) k) := by
  k_with_none
  w_top off
  w_strict (unfold Cl; k_fill; intros; rename_i hret; refine wpAny_call ?_; k_dflt cell_enter; k_steps; (all_goals (refine ret_int hret rfl trivial (by k_asm) (by k_asm))))
theorem cl_salt (w : World) (n : Int) (tn : Tok) : Cl 1 w 35 [.int n tn] (0 ≤ n ∧ n ≤ 2 * 4294967296) True (fun k => .int (saltOf n) k) := by
  k_with_none
  w_top off
  w_strict (unfold Cl; k_fill; intros; rename_i hret; refine wpAny_call ?_; k_dflt cell_enter; k_steps; (all_goals (refine ret_int hret rfl trivial (by k_asm) (by k_asm))))
theorem cl_inv (w : World) (n : Int) (tn : Tok) : Cl 1 w 42 [.int n tn] (0 ≤ n ∧ n < 4294967296) True (fun k => .int (inv n) k) := by
  k_with_none
  w_top off
  w_strict (unfold Cl; k_fill; intros; rename_i hret; refine wpAny_call ?_; k_dflt cell_enter; k_steps; (all_goals (refine ret_int hret rfl trivial (by k_asm) (by k_asm))))
theorem cl_un16 (w : World) (n : Int) (tn tb : Tok) : Cl 1 w 49 [.int n tn, .int 16 tb] (0 ≤ n ∧ n < 4294967296) (0 ≤ un16 n ∧ un16 n < 4294967296) (fun k => .int (un16 n) k) := by
  k_with_none
  w_top off
  w_strict (unfold Cl; k_fill; intros; rename_i hret; refine wpAny_call ?_; k_dflt cell_enter; k_steps; (all_goals (refine ret_int hret rfl (unturn_W (k := 16) (by assumption)) (by k_asm) (by k_asm))))
theorem cl_un13 (w : World) (n : Int) (tn tb : Tok) : Cl 1 w 49 [.int n tn, .int 13 tb] (0 ≤ n ∧ n < 4294967296) (0 ≤ un13 n ∧ un13 n < 4294967296) (fun k => .int (un13 n) k) := by
  k_with_none
  w_top off
  w_strict (unfold Cl; k_fill; intros; rename_i hret; refine wpAny_call ?_; k_dflt cell_enter; k_steps; (all_goals (refine ret_int hret rfl (unturn_W (k := 13) (by assumption)) (by k_asm) (by k_asm))))
theorem cl_un15 (w : World) (n : Int) (tn tb : Tok) : Cl 1 w 49 [.int n tn, .int 15 tb] (0 ≤ n ∧ n < 4294967296) (0 ≤ un15 n ∧ un15 n < 4294967296) (fun k => .int (un15 n) k) := by
  k_with_none
  w_top off
  w_strict (unfold Cl; k_fill; intros; rename_i hret; refine wpAny_call ?_; k_dflt cell_enter; k_steps; (all_goals (refine ret_int hret rfl (unturn_W (k := 15) (by assumption)) (by k_asm) (by k_asm))))
theorem cl_inv_of {w : World} {n v : Int} {tn : Tok} (h0 : 0 ≤ n ∧ n < 4294967296) (e : inv n = v) : Cl 1 w 42 [.int n tn] True True (fun k => .int v k) := by
  subst e
  intro mean mg mb dp un gd cn cs a ccd cl outer A₀ base h₀ L m news s Q E B F X N T hk _ hd hu ret
  exact cl_inv w n tn mean mg mb dp un gd cn cs a ccd cl outer A₀ base h₀ L m news s Q E B F X N T hk h0 hd hu ret
theorem cl_inv_a (w : World) (tn : Tok) : Cl 1 w 42 [.int 3266489917 tn] True True (fun k => .int 2828982549 k) := cl_inv_of (by decide) inv_a
theorem cl_inv_b (w : World) (tn : Tok) : Cl 1 w 42 [.int 2246822519 tn] True True (fun k => .int 3066638151 k) := cl_inv_of (by decide) inv_b
theorem cl_inv_c (w : World) (tn : Tok) : Cl 1 w 42 [.int 16777619 tn] True True (fun k => .int 899433627 k) := cl_inv_of (by decide) inv_c
theorem cl_inv_d (w : World) (tn : Tok) : Cl 1 w 42 [.int 2654435761 tn] True True (fun k => .int 244002641 k) := cl_inv_of (by decide) inv_d
theorem cl_zap (w : World) (x : Str) (salt : Int) (tx ts : Tok) : Cl 1 w 21 [.str x tx, .int salt ts] (Small x ∧ 0 ≤ salt ∧ salt < 4294967296) ((0 ≤ zap x salt ∧ zap x salt < 4294967296) ∧ unsalt (zap x salt) (KStt.codes x).reverse = salt) (fun k => .int (zap x salt) k) := by
  k_with_none
  w_top off
  (k_with "pyIter str" => k_state (fun pre found => found = Mine.mix pre salt) "found")
  (k_with "state" => first | exact Mine.mix_nil _ | exact Mine.mix_snoc (by assumption))
  w_strict (unfold Cl; k_fill; intros; rename_i hpre _ _ hret; refine wpAny_call ?_; k_dflt cell_enter; k_steps; (all_goals (refine ret_int hret (zap_of (by assumption)) ⟨zap_W _ _, unsalt_zap hpre.2 hpre.1⟩ (by k_asm) (by k_asm))))
end Mine
namespace Mine
local macro_rules | `(tactic| walk_at "call ref") => `(tactic| (k_here; (with_reducible show wpAny _ _ (call (Value.ref _) [Value.int _ _]) _ _ _); k_dflt (first
  | refine' cl_use (cl_inv_a _ _) ?k1 ?k2 ?k3 ?k4 ?k5 ?kK ?kp ?kd ?ku ?_
  | refine' cl_use (cl_inv_b _ _) ?k1 ?k2 ?k3 ?k4 ?k5 ?kK ?kp ?kd ?ku ?_
  | refine' cl_use (cl_inv_c _ _) ?k1 ?k2 ?k3 ?k4 ?k5 ?kK ?kp ?kd ?ku ?_
  | refine' cl_use (cl_inv_d _ _) ?k1 ?k2 ?k3 ?k4 ?k5 ?kK ?kp ?kd ?ku ?_
  | refine' cl_use (cl_salt _ _ _) ?k1 ?k2 ?k3 ?k4 ?k5 ?kK ?kp ?kd ?ku ?_); (case k1 => k_asm); (case k2 => k_asm); (case k3 => k_asm); (case k4 => k_asm); (case k5 => k_asm); (case kK => first | exact rfl | assumption); (case kp => first | trivial | omega); (case kd => ktr_room); (case ku => ktr_units); intro t9 h9 tk9 P9 F9 N9; (try dsimp only); (try k_fold)))
local macro_rules | `(tactic| walk_at "call ref") => `(tactic| (k_here; (with_reducible show wpAny _ _ (call (Value.ref _) [Value.int _ _, Value.int _ _]) _ _ _); k_dflt (first
  | refine' cl_use (cl_un16 _ _ _ _) ?k1 ?k2 ?k3 ?k4 ?k5 ?kK ?kp ?kd ?ku ?_
  | refine' cl_use (cl_un13 _ _ _ _) ?k1 ?k2 ?k3 ?k4 ?k5 ?kK ?kp ?kd ?ku ?_
  | refine' cl_use (cl_un15 _ _ _ _) ?k1 ?k2 ?k3 ?k4 ?k5 ?kK ?kp ?kd ?ku ?_); (case k1 => k_asm); (case k2 => k_asm); (case k3 => k_asm); (case k4 => k_asm); (case k5 => k_asm); (case kK => first | exact rfl | assumption); (case kp => first | trivial | omega | exact fm_W _); (case kd => ktr_room); (case ku => ktr_units); intro t9 h9 tk9 P9 F9 N9; (try dsimp only); (try k_fold)))
local macro_rules | `(tactic| walk_at "exec For Name Subscript") => `(tactic| (k_here; (rename Fr _ _ _ _ => lF'); (with_unfolding_all refine' For_invVF lF' ?k1 ?k2 ?_; (case k1 => exact rfl); (case k2 => exact rfl); k_whole)))
local macro_rules | `(tactic| walk_at "subscriptTail Name Slice str ref") => `(tactic| (k_here; (with_reducible show wpAny _ _ (subscriptTail _ (Expr.Slice none none (some _) _) _ _) _ _ _); (with_reducible rename Fr _ _ _ _ => F'); (with_reducible rename News _ _ _ _ => N'); (refine slice_strK_nn (hsz := ?hsz) (s := ⟨_, _, _, _, _⟩) F' N' (by decide) ?_); (case hsz => (simp only [sizeLine_eq]; omega)); intro _ _ _ _ _))
theorem cl_lawsalt (w : World) (told : Int) (x : Str) (tt tx : Tok) : Cl 2 w 56 [.int told tt, .str x tx] ((0 ≤ told ∧ told < 4294967296) ∧ x.length ≤ 100) True (fun k => .int (unsalt told (KStt.codes x).reverse) k) := by
  k_with_none
  w_top off
  (k_with "pyIter str" => k_state (fun pre found => found = Mine.unmix pre (Mine.un told)) "found")
  (k_with "state" => first | exact Mine.unmix_nil _ | exact Mine.unmix_snoc (by assumption))
  w_strict (unfold Cl; k_fill; intros; rename_i hpre _ _ hret; refine wpAny_call ?_; k_dflt cell_enter; k_steps; (all_goals (refine ret_int hret (unsalt_of (by assumption)) trivial (by k_asm) (by k_asm))))
end Mine
namespace Mine
local macro_rules | `(tactic| walk_at "mine: another count of lines than before") => `(tactic| skip)
local macro_rules | `(tactic| walk_at "call ref") => `(tactic| (k_here; (with_reducible show wpAny _ _ (call (Value.ref _) [Value.int _ _, Value.int _ _]) _ _ _); k_dflt (refine' cl_use (cl_first _ _ _ _ _) ?k1 ?k2 ?k3 ?k4 ?k5 ?kK ?kp ?kd ?ku ?_); (case k1 => k_asm); (case k2 => k_asm); (case k3 => k_asm); (case k4 => k_asm); (case k5 => k_asm); (case kK => first | exact rfl | assumption); (case kp => omega); (case kd => ktr_room); (case ku => ktr_units); intro t9 h9 tk9 P9 F9 N9; (try dsimp only); (try k_fold)))
local macro_rules | `(tactic| walk_at "call ref") => `(tactic| (k_here; (with_reducible show wpAny _ _ (call (Value.ref _) [Value.int _ _, Value.str _ _]) _ _ _); k_dflt (refine' cl_use (cl_lawsalt _ _ _ _ _) ?k1 ?k2 ?k3 ?k4 ?k5 ?kK ?kp ?kd ?ku ?_); (case k1 => k_asm); (case k2 => k_asm); (case k3 => k_asm); (case k4 => k_asm); (case k5 => k_asm); (case kK => first | exact rfl | assumption); (case kp => omega); (case kd => ktr_room); (case ku => ktr_units); intro t9 h9 tk9 P9 F9 N9; (try dsimp only); (try k_fold)))
local macro_rules | `(tactic| walk_at "call ref") => `(tactic| (k_here; (with_reducible show wpAny _ _ (call (Value.ref _) [Value.str _ _, Value.int _ _]) _ _ _); k_dflt (refine' cl_use (cl_zap _ _ _ _ _) ?k1 ?k2 ?k3 ?k4 ?k5 ?kK ?kp ?kd ?ku ?_); (case k1 => k_asm); (case k2 => k_asm); (case k3 => k_asm); (case k4 => k_asm); (case k5 => k_asm); (case kK => first | exact rfl | assumption); (case kp => (refine ⟨by assumption, ?_⟩; omega)); (case kd => ktr_room); (case ku => ktr_units); intro t9 h9 tk9 P9 F9 N9; (try dsimp only); (try k_fold)))
local macro_rules | `(tactic| walk_at "compareOp NotEq ref ref") => `(tactic| (k_here; (with_reducible show wpAny _ _ (compareOp CmpOp.NotEq (Value.ref _) (Value.ref _)) _ _ _); (with_unfolding_all refine' ne_intsK ?k1 ?k2 ?k3 ?k4 ?k5 ?_; (case k1 => is_list); (case k2 => l_intsC); (case k3 => is_list); (case k4 => l_intsC); (case k5 => ktr_units); k_whole)))
theorem cl_undone (w : World) (x : Str) (salt : Int) (tx ts : Tok) : Cl 3 w 70 [.str x tx, .int salt ts] (Small x ∧ x.length ≤ 100 ∧ 0 ≤ salt ∧ salt < 4294967296) True (fun _ => .bool true) := by
  k_with_none
  w_top off
  (k_with "pyIter ref" => (k_of "bits" => k_search (fun pre => True)))
  w_strict (unfold Cl; k_fill; intros; rename_i hpre _ _ hret; obtain ⟨hpre1, hpre2, hpre3, hpre4⟩ := hpre; refine wpAny_call ?_; k_dflt cell_enter; k_steps; (all_goals (first
    | exact ret_bool hret rfl trivial (by k_asm) (by k_asm)
    | exact ret_bool hret rfl trivial (by k_asm) (by (refine cb_drop (by k_asm) ?_); intro p hp; exact .tail _ (.tail _ hp))
    | exact (und1 hpre1 ⟨hpre3, hpre4⟩ (by assumption)).elim
    | exact (und2 (by assumption)).elim
    | exact (und3 (by assumption) (by assumption) (by assumption)).elim
    | exact (und5 (by assumption)).elim
    | exact (und6 (by assumption)).elim)))
end Mine
namespace Mine
/-- a text of one sign, from the blank to ~ -/
def One (t : Str) : Prop := ∃ c : Nat, t = ⟨#[c]⟩ ∧ 32 ≤ c ∧ c ≤ 126
theorem one_chr (x : Int) : One ⟨#[(32 + x.fmod 95).toNat]⟩ := by
  have h : x.fmod 95 = x % 95 := Int.fmod_eq_emod_of_nonneg _ (by decide)
  exact ⟨_, rfl, by omega, by omega⟩
theorem name_nil : ([] : List Str).length = ([] : List Int).length ∧ ∀ t ∈ ([] : List Str), One t := ⟨rfl, fun _ h => nomatch h⟩
theorem name_snoc {found : List Str} {pre : List Int} {k x : Int} (h1 : found.length = pre.length) (h2 : ∀ t ∈ found, One t) :
    (found ++ [(⟨#[(32 + x.fmod 95).toNat]⟩ : Str)]).length = (pre ++ [k]).length ∧ ∀ t ∈ found ++ [(⟨#[(32 + x.fmod 95).toNat]⟩ : Str)], One t := by
  refine ⟨by simp [h1], fun t ht => ?_⟩
  rcases List.mem_append.mp ht with ht | ht
  · exact h2 t ht
  · rw [List.mem_singleton.mp ht]; exact one_chr x
theorem name_len {x : Int} {ws : List Str} (h : ws.length = (rangeKs 0 (x.fmod 29 - 0).toNat).length) : ws.length ≤ 28 := by
  have e : x.fmod 29 = x % 29 := Int.fmod_eq_emod_of_nonneg _ (by decide)
  rw [rangeKs_length] at h
  omega
def ClName (w : World) : Prop :=
  ∀ (x : Int) (tx : Tok) (mean : ExcName → Option Value) (mg mb : Str → Option Value) (dp un : Nat) (gd : Option (List Code)) (cn : Str) (cs : Scope) (a : Addr) (ccd : Value) (cl : List (Str × Addr)) (outer : List Env) (A₀ : Around) (base h₀ : Heap) (L : Addr) (m : Str → Option Value) (news : List (Addr × Obj)) (s : Shared) (Q E : Value → Shared → Prop),
    Below A₀ base outer h₀ → Fr h₀ L s.heap m → (hd.heap_39 w.params).In h₀ → News h₀ L s.heap news → Top hd.view_39 (looseW hd.view_39 []) mean mg mb h₀ → cs.kind = .function →
    dp + 2 < recursionLimit → un + 100 < cLine →
    (∀ (l : Addr) (us : List Value) (ws : List Str) (c : Nat) (h' : Heap) (tk' : Nat), Fr h₀ L h' m → News h₀ L h' ((l, listOf us.toArray c) :: news) → (∀ p ∈ news, p.1 < l) → StrsAre us ws → ws.length ≤ 28 → (∀ t ∈ ws, One t) → Q (.ref l) { s with heap := h', toks := tk' }) →
    wpAny (model PySem.Challenge.rw_pb0579_01.row.prog w) (ktrTop dp un gd cn cs L a ccd cl outer) (call (.ref 63) [.int x tx]) Q E s
local macro_rules | `(tactic| kst_facts1) => `(tactic| first | exact PyProof.Rows.StrsAre.nil | exact PyProof.Rows.StrsAre.append' (by assumption) (.cons _ _ .nil))
theorem cl_name (w : World) : ClName w := by
  k_with_none
  w_top off
  (k_with "pyIter ref" => (k_of "turn" => k_state (fun pre (x : Int) found => found.length = pre.length ∧ ∀ t ∈ found, Mine.One t) "x" "found$"))
  (k_with "state" => first | exact Mine.name_nil | exact Mine.name_snoc (by assumption) (by assumption))
  w_strict (unfold ClName; k_fill; intros; rename_i hret; refine wpAny_call ?_; k_dflt cell_enter; k_steps; (all_goals (exact hret _ _ _ _ _ _ (by k_asm) (by k_asm) (by assumption) (by assumption) (name_len (by assumption)) (by assumption))))
end Mine
namespace Mine
/-! ### the glued text -/
def code (t : Str) : Int := (t.cps.getD 0 0 : Nat)
def glue (ws : List Str) : Str := Txt.join (Str.ofString "") ws
theorem codes_app (a b : Str) : KStt.codes (a ++ b) = KStt.codes a ++ KStt.codes b := by
  unfold KStt.codes
  rw [Str.cps_append, Array.toList_append, List.map_append]
theorem codes_join : ∀ ws : List Str, KStt.codes (Str.join (Str.ofString "") ws) = ws.flatMap KStt.codes
  | [] => rfl
  | [x] => by show KStt.codes x = _; simp
  | x :: y :: r => by
    show KStt.codes (x ++ Str.ofString "" ++ Str.join (Str.ofString "") (y :: r)) = _
    rw [codes_app, codes_app, codes_join (y :: r)]
    have e : KStt.codes (Str.ofString "") = [] := by decide +kernel
    rw [e, List.append_nil]
    rfl
theorem code_one {t : Str} (h : One t) : KStt.codes t = [code t] := by
  obtain ⟨c, rfl, _, _⟩ := h
  rfl
theorem codes_glue {ws : List Str} (h : ∀ t ∈ ws, One t) : KStt.codes (glue ws) = ws.map code := by
  show KStt.codes (Builtin.Str.glued (Str.ofString "") ws) = _
  rw [StrLaws.glued_eq_join, codes_join]
  induction ws with
  | nil => rfl
  | cons t r ih =>
    rw [List.flatMap_cons, List.map_cons, code_one (h t (.head _)), ih fun u hu => h u (.tail _ hu)]
    rfl
theorem code_small {t : Str} (h : One t) : 32 ≤ code t ∧ code t ≤ 126 := by
  obtain ⟨c, rfl, h1, h2⟩ := h
  show 32 ≤ ((c : Nat) : Int) ∧ ((c : Nat) : Int) ≤ 126
  omega
theorem glue_small {ws : List Str} (h : ∀ t ∈ ws, One t) : Small (glue ws) := by
  intro c hc
  rw [codes_glue h] at hc
  obtain ⟨t, ht, rfl⟩ := List.mem_map.mp hc
  exact code_small (h t ht)
theorem glue_length {ws : List Str} (h : ∀ t ∈ ws, One t) : (glue ws).length = ws.length := by
  rw [← KStt.codes_length, codes_glue h, List.length_map]
theorem one_len {t : Str} (h : One t) : t.length = 1 := by
  obtain ⟨c, rfl, _, _⟩ := h
  rfl
theorem sum_ones {ws : List Str} (h : ∀ t ∈ ws, One t) : (ws.map (·.length)).sum = ws.length := by
  induction ws with
  | nil => rfl
  | cons t r ih =>
    rw [List.map_cons, List.sum_cons, ih fun u hu => h u (.tail _ hu), one_len (h t (.head _)), List.length_cons]
    omega
theorem one_set {ws : List Str} {x : Str} {k : Nat} (h : ∀ t ∈ ws, One t) (hx : One x) : ∀ t ∈ ws.set k x, One t := by
  intro t ht
  rcases List.mem_or_eq_of_mem_set ht with ht | rfl
  · exact h t ht
  · exact hx
theorem strs_set {x : Str} {u : Tok} : ∀ {vs : List Value} {ws : List Str}, StrsAre vs ws → ∀ j : Nat, StrsAre (vs.set j (.str x u)) (ws.set j x)
  | _, _, .nil, _ => .nil
  | _, _, .cons _ _ h, 0 => .cons x u h
  | _, _, .cons i t h, j + 1 => .cons i t (strs_set h j)
theorem at_in {ws : List Str} {y : Int} (h : ws ≠ []) : 0 ≤ y.fmod (ws.length : Int) ∧ y.fmod (ws.length : Int) < (ws.length : Int) := by
  have hp : 0 < ws.length := List.length_pos_iff.mpr h
  rw [Int.fmod_eq_emod_of_nonneg _ (by omega)]
  exact ⟨Int.emod_nonneg _ (by omega), Int.emod_lt_of_pos _ (by omega)⟩

/-! ### rules of the walk -/
theorem can_ones : ∀ {ws : List Str}, (∀ t ∈ ws, One t) → PyData.canLayAll0 (ws.map PyData.str) = true
  | [], _ => by simp [PyData.canLayAll0]
  | t :: r, h => by
    obtain ⟨c, e, h1, h2⟩ := h t (.head _)
    have hc : (c < 0x110000) := by omega
    have := can_ones (ws := r) fun u hu => h u (.tail _ hu)
    rw [List.map_cons]
    simp only [PyData.canLayAll0, PyData.canLay0, this, Bool.and_true]
    rw [e]
    show (#[c] : Array Nat).all (fun k => decide (k < 0x110000)) = true
    simp [hc]
theorem depth_ones : ∀ ws : List Str, PyData.depthAll (ws.map PyData.str) = 0
  | [] => rfl
  | _ :: r => by simp [PyData.depthAll, PyData.depth, depth_ones r]
theorem reads_strs {h : Heap} : ∀ {vs : List Value} {ws : List Str}, StrsAre vs ws → CarriedAll vs (ws.map PyData.str)
  | _, _, .nil => .nil
  | _, _, .cons y t r => .cons (.str y t) (reads_strs (h := h) r)
section
variable {prog : Program} {w : World} {A : Around} {E : Value → Shared → Prop} {s : Shared} {h₀ : Heap} {L l e : Addr} {m : Str → Option Value} {news news' : List (Addr × Obj)} {us : List Value} {ws : List Str} {c n : Nat} {t u : Tok} {y : Int} {x : Str}
theorem join_use {Q : Value → Shared → Prop} (N : News h₀ L s.heap news) (hm : (l, listOf us.toArray c) ∈ news) (hS : StrsAre us ws) (hn : ws.length ≤ 28) (hO : ∀ t ∈ ws, One t)
    (h : ∀ t' k, Small (glue ws) → (glue ws).length ≤ 100 → Q (.str (glue ws) t') { s with toks := k }) : wpAny (model prog w) A (call (.builtin "str.join") [.str (Str.ofString "") t, .ref l]) Q E s := by
  have hl : s.heap.IsList l us.toArray := ⟨_, (N _ hm).1, rfl, c, rfl⟩
  have z : (Str.ofString "").length = 0 := by decide
  refine join_list hl (by simpa using hS) (by rw [sum_ones hO, z]; omega) fun t' k => h t' k (glue_small hO) (by rw [glue_length hO]; omega)
theorem ne_nil_use {Q : Value → Shared → Prop} (N : News h₀ L s.heap news) (hm : (l, listOf us.toArray c) ∈ news) (he : (e, listOf #[] n) ∈ news) (hS : StrsAre us ws) (hO : ∀ t ∈ ws, One t) (hu : A.units + 64 < cLine)
    (h1 : ws = [] → Q (.bool false) s) (h2 : ws ≠ [] → Q (.bool true) s) : wpAny (model prog w) A (compareOp .NotEq (.ref l) (.ref e)) Q E s := by
  have hl : s.heap.IsList l us.toArray := ⟨_, (N _ hm).1, rfl, c, rfl⟩
  have hl' : s.heap.IsList e ([] : List Value).toArray := ⟨_, (N _ he).1, rfl, n, rfl⟩
  have sh : SeqAt.shaped (.list (ws.map PyData.str)) = true := by
    simp [SeqAt.shaped, PyData.canLay0, PyData.depth, can_ones hO, depth_ones]
  have sh0 : SeqAt.shaped (.list []) = true := by decide
  refine ne_dataH (reads_newData hl (reads_strs (h := s.heap) hS)) (reads_newData hl' .nil) sh sh0 hu ?_
  cases ws with
  | nil => exact h1 rfl
  | cons a r => exact h2 (by simp)
theorem len_use {Q : Value → Shared → Prop} (N : News h₀ L s.heap news) (hm : (l, listOf us.toArray c) ∈ news) (hS : StrsAre us ws) (hn : ws.length ≤ 28)
    (h : Q (.int (ws.length : Int) (s.toks + 1)) { s with toks := s.toks + 1 + 1 }) : wpAny (model prog w) A (call (.builtin "len") [.ref l]) Q E s :=
  kst_len N hm (StrsAre.length hS) (by omega) h
theorem mod_use {Q : Value → Shared → Prop} (hne : ws ≠ []) (h : Q (.int (y.fmod (ws.length : Int)) s.toks) { s with toks := s.toks + 1 }) : wpAny (model prog w) A (binaryOp .Mod (.int y t) (.int (ws.length : Int) u)) Q E s :=
  mod_int' (by have := List.length_pos_iff.mpr hne; omega) h
theorem sub_use {Q : Value → Shared → Prop} {value slice : PySem.Expr} (N : News h₀ L s.heap news) (hm : (l, listOf us.toArray c) ∈ news) (hS : StrsAre us ws) (hne : ws ≠ []) (hn : ws.length ≤ 28) (hO : ∀ t ∈ ws, One t)
    (h : ∀ t' (d : Nat), 32 ≤ d → d ≤ 126 → ws[(y.fmod (ws.length : Int)).toNat]? = some ⟨#[d]⟩ → Q (.str ⟨#[d]⟩ t') s)
    (hs : subscripted slice false (.ref l) (.int (y.fmod (ws.length : Int)) u) = operate [.ref l, .int (y.fmod (ws.length : Int)) u] (getItem (.ref l) (.int (y.fmod (ws.length : Int)) u)) := by with_unfolding_all rfl) :
    wpAny (model prog w) A (subscriptTail value slice (.ref l) (.int (y.fmod (ws.length : Int)) u)) Q E s := by
  have hl : s.heap.IsList l us.toArray := ⟨_, (N _ hm).1, rfl, c, rfl⟩
  obtain ⟨h0, h1⟩ := at_in (y := y) hne
  refine KTb.item_list hl hS h0 h1 (by omega) (fun t' hlt => ?_) hs
  have hg : ws[(y.fmod (ws.length : Int)).toNat]? = some (ws.getD (y.fmod (ws.length : Int)).toNat Str.empty) := by
    rw [List.getD_eq_getElem?_getD, List.getElem?_eq_getElem hlt]; rfl
  obtain ⟨d, e, h2, h3⟩ := hO _ (List.mem_of_getElem? hg)
  rw [e]
  rw [e] at hg
  exact h t' d h2 h3 hg
theorem set_use {Q : Unit → Shared → Prop} (F : Fr h₀ L s.heap m) (N : News h₀ L s.heap news) (U : Upd l (listOf us.toArray n) (listOf (us.set (y.fmod (ws.length : Int)).toNat (.str x u)).toArray n) news news') (hS : StrsAre us ws) (hne : ws ≠ []) (hn : ws.length ≤ 28)
    (h : ∀ h', Fr h₀ L h' m → News h₀ L h' news' → StrsAre (us.set (y.fmod (ws.length : Int)).toNat (.str x u)) (ws.set (y.fmod (ws.length : Int)).toNat x) → Q () { s with heap := h' }) :
    wpAny (model prog w) A (setItem (.ref l) (.int (y.fmod (ws.length : Int)) t) (.str x u)) Q E s := by
  obtain ⟨h0, h1⟩ := at_in (y := y) hne
  obtain ⟨pre, post, rfl, rfl, a, b⟩ := U.split
  have z := N (l, listOf us.toArray n) (List.mem_append.mpr (.inr (.head _)))
  have hl : us.length = ws.length := hS.length
  have hs : us.toArray.size = ws.length := by rw [List.size_toArray]; exact hl
  refine ki_setAt z.1 h0 (by omega) (by omega) (h _ (F.change (Heap.SameBut.update ..) z.2.1 z.2.2) (ki_turn _ N a b ?_ ?_) (strs_set hS _))
  · show us.toArray.setIfInBounds (y.fmod (ws.length : Int)).toNat (.str x u) = (us.set (y.fmod (ws.length : Int)).toNat (.str x u)).toArray
    apply Array.toList_inj.mp
    simp
  · simp
end
end Mine
namespace Mine
theorem name_use {w : World} {x : Int} {tx : Tok}
    {mean : ExcName → Option Value} {mg mb : Str → Option Value} {dp un : Nat} {gd : Option (List Code)} {cn : Str} {cs : Scope} {a : Addr} {ccd : Value} {cl : List (Str × Addr)} {outer : List Env} {A₀ : Around} {base h₀ : Heap} {L : Addr} {m : Str → Option Value} {news : List (Addr × Obj)} {s : Shared} {Q E : Value → Shared → Prop}
    (B : Below A₀ base outer h₀) (F : Fr h₀ L s.heap m) (X : (hd.heap_39 w.params).In h₀) (N : News h₀ L s.heap news) (T : Top hd.view_39 (looseW hd.view_39 []) mean mg mb h₀) (hk : cs.kind = .function)
    (hd' : dp + 2 < recursionLimit) (hu : un + 100 < cLine) (ret : ∀ (l : Addr) (us : List Value) (ws : List Str) (c : Nat) (h' : Heap) (tk' : Nat), Fr h₀ L h' m → News h₀ L h' ((l, listOf us.toArray c) :: news) → (∀ p ∈ news, p.1 < l) → StrsAre us ws → ws.length ≤ 28 → (∀ t ∈ ws, One t) → Q (.ref l) { s with heap := h', toks := tk' }) :
    wpAny (model PySem.Challenge.rw_pb0579_01.row.prog w) (ktrTop dp un gd cn cs L a ccd cl outer) (call (.ref 63) [.int x tx]) Q E s :=
  cl_name w x tx mean mg mb dp un gd cn cs a ccd cl outer A₀ base h₀ L m news s Q E B F X N T hk hd' hu ret
theorem salt_pre1 (a : Int) : 0 ≤ a.fmod (2 ^ Int.toNat 32) ∧ a.fmod (2 ^ Int.toNat 32) ≤ 2 * 4294967296 := by
  have h := fm_W a
  exact ⟨h.1, by have := h.2; omega⟩
theorem salt_pre2 (a : Int) : 0 ≤ a.fmod (2 ^ Int.toNat 32) + 2 ^ Int.toNat 32 ∧ a.fmod (2 ^ Int.toNat 32) + 2 ^ Int.toNat 32 ≤ 2 * 4294967296 := by
  have h := fm_W a
  rw [p32] at *
  exact ⟨by have := h.1; omega, by have := h.2; omega⟩
theorem cl_weaken {lv : Nat} {w : World} {f : Addr} {vs : List Value} {pre pre' post post' : Prop} {R : Tok → Value} (C : Cl lv w f vs pre post R) (hp : pre' → pre) (hq : post → post') : Cl lv w f vs pre' post' R := by
  intro mean mg mb dp un gd cn cs a ccd cl outer A₀ base h₀ L m news s Q E B F X N T hk h hd hu ret
  exact C mean mg mb dp un gd cn cs a ccd cl outer A₀ base h₀ L m news s Q E B F X N T hk (hp h) hd hu (fun t h' tk' p F' N' => ret t h' tk' (hq p) F' N')
theorem cl_saltA (w : World) (a : Int) (tn : Tok) : Cl 1 w 35 [.int (a.fmod (2 ^ Int.toNat 32)) tn] True ((0 ≤ saltOf (a.fmod (2 ^ Int.toNat 32)) ∧ saltOf (a.fmod (2 ^ Int.toNat 32)) < 2 ^ Int.toNat 32) ∧ ((saltOf (a.fmod (2 ^ Int.toNat 32)) - 40503) * 244002641).fmod (2 ^ Int.toNat 32) = a.fmod (2 ^ Int.toNat 32)) (fun k => .int (saltOf (a.fmod (2 ^ Int.toNat 32))) k) :=
  cl_weaken (cl_salt w _ tn) (fun _ => salt_pre1 a) fun _ => ⟨⟨(salt_W _).1, by rw [p32]; exact (salt_W _).2⟩, salt_back (fm_W a)⟩
theorem cl_saltB (w : World) (a : Int) (tn : Tok) : Cl 1 w 35 [.int (a.fmod (2 ^ Int.toNat 32) + 2 ^ Int.toNat 32) tn] True True (fun k => .int (saltOf (a.fmod (2 ^ Int.toNat 32))) k) := by
  have h := cl_weaken (cl_salt w _ tn) (fun _ : True => salt_pre2 a) (fun h : True => h)
  rw [salt_turn] at h
  exact h
/-! ### one way behind a conditional int -/
inductive CutMark : Prop
  | mk : CutMark
theorem cut_int {prog : Program} {w : World} {A : Around} {E : Value → Shared → Prop} {s : Shared} {h₀ : Heap} {L : Addr} {m : Str → Option Value} {news : List (Addr × Obj)} {tree : Sem Value} {Q : Value → Shared → Prop}
    (F : Fr h₀ L s.heap m) (N : News h₀ L s.heap news)
    (hw : ∀ Q' : Value → Shared → Prop, CutMark → (∀ (v : Int) (t : Tok) (h' : Heap) (tk' : Nat), Fr h₀ L h' m → News h₀ L h' news → Q' (.int v t) { s with heap := h', toks := tk' }) → wpAny (model prog w) A tree Q' E s)
    (hk : ∀ (v : Int) (t : Tok) (h' : Heap) (tk' : Nat), Fr h₀ L h' m → News h₀ L h' news → Q (.int v t) { s with heap := h', toks := tk' }) : wpAny (model prog w) A tree Q E s := hw Q .mk hk
/-! ### ways that are none -/
theorem endZ {l : List Int} (h1 : decide (l = []) = true) (h2 : 1 < (l.length : Int)) : False := by
  have h := of_decide_eq_true h1
  subst h
  simp at h2
theorem pos_of {l : List Int} (h : decide (l = []) = false) : (0 : Int) < (l.length : Int) := by
  have h := of_decide_eq_false h
  have := List.length_pos_iff.mpr h
  omega
theorem salts_ne (x y : Int) : x.fmod (2 ^ Int.toNat 32) ≠ (x + 1 + y.fmod (2 ^ Int.toNat 32 - 1)).fmod (2 ^ Int.toNat 32) := by
  have e : y.fmod (2 ^ Int.toNat 32 - 1) = y % 4294967295 := by
    rw [p32]; exact Int.fmod_eq_emod_of_nonneg _ (by decide)
  rw [fm, fm, e]
  omega
theorem endA {ws : List Str} {x y : Int} (sm : Small (glue ws)) (h : zap (glue ws) (x.fmod (2 ^ Int.toNat 32)) = zap (glue ws) ((x + 1 + y.fmod (2 ^ Int.toNat 32 - 1)).fmod (2 ^ Int.toNat 32))) : False :=
  salts_ne x y (zap_salts (fm_W _) (fm_W _) sm h)
theorem endB {ws : List Str} {x z : Int} {k d : Nat} (O : ∀ t ∈ ws, One t) (g : ws[k]? = some ⟨#[d]⟩) (lo : 32 ≤ d) (hi : d ≤ 126)
    (h : zap (glue (ws.set k ⟨#[(32 + ((d : Int) - 32 + 1 + z.fmod 94).fmod 95).toNat]⟩)) (x.fmod (2 ^ Int.toNat 32)) = zap (glue ws) (x.fmod (2 ^ Int.toNat 32))) : False := by
  have O' := one_set (k := k) O (one_chr ((d : Int) - 32 + 1 + z.fmod 94))
  have hk : k < ws.length := by
    rcases Nat.lt_or_ge k ws.length with h | h
    · exact h
    · rw [List.getElem?_eq_none h] at g; cases g
  have e1 : ws = ws.take k ++ ⟨#[d]⟩ :: ws.drop (k + 1) := by
    rw [List.getElem?_eq_getElem hk] at g
    have g' := Option.some.inj g
    rw [← g', List.getElem_cons_drop, List.take_append_drop]
  have e2 : ws.set k ⟨#[(32 + ((d : Int) - 32 + 1 + z.fmod 94).fmod 95).toNat]⟩ = ws.take k ++ ⟨#[(32 + ((d : Int) - 32 + 1 + z.fmod 94).fmod 95).toNat]⟩ :: ws.drop (k + 1) := List.set_eq_take_append_cons_drop.trans (if_pos hk)
  have c1 : KStt.codes (glue ws) = (ws.take k).map code ++ (d : Int) :: (ws.drop (k + 1)).map code := by
    rw [codes_glue O]
    conv => lhs; rw [e1]
    rw [List.map_append, List.map_cons]
    rfl
  have c2 : KStt.codes (glue (ws.set k ⟨#[(32 + ((d : Int) - 32 + 1 + z.fmod 94).fmod 95).toNat]⟩)) = (ws.take k).map code ++ (((32 + ((d : Int) - 32 + 1 + z.fmod 94).fmod 95).toNat : Nat) : Int) :: (ws.drop (k + 1)).map code := by
    rw [codes_glue O', e2, List.map_append, List.map_cons]
    rfl
  have q := zap_signs (fm_W _) (glue_small O') (glue_small O) c2 c1 h
  have f1 : z.fmod 94 = z % 94 := Int.fmod_eq_emod_of_nonneg _ (by decide)
  rw [f1] at q
  have f2 : ((d : Int) - 32 + 1 + z % 94).fmod 95 = ((d : Int) - 32 + 1 + z % 94) % 95 := Int.fmod_eq_emod_of_nonneg _ (by decide)
  rw [f2] at q
  omega
end Mine
open Mine
local macro_rules | `(tactic| walk_at "binaryOp Pow int int") => `(tactic| (k_here; k_dflt ((with_reducible refine pow_int_small ?kb1 ?kb2 ?kb3 ?_); (case kb1 => decide); (case kb2 => decide); (case kb3 => decide))))
local macro_rules | `(tactic| walk_at "call builtin:str.join") => `(tactic| (k_here; k_dflt (k_dflt (refine' join_use ?k1 ?k2 ?k3 ?k4 ?k5 ?_); (case k1 => k_asm); (case k2 => k_mem); (case k3 => assumption); (case k4 => first | assumption | (rw [List.length_set]; assumption)); (case k5 => first | assumption | exact one_set (by assumption) (one_chr _)); intro t9 k9 sm9 ln9)))
local macro_rules | `(tactic| walk_at "compareOp NotEq ref ref") => `(tactic| (k_here; k_dflt ((with_reducible show wpAny _ _ (compareOp CmpOp.NotEq (Value.ref _) (Value.ref _)) _ _ _); k_dflt (refine' ne_nil_use ?k1 ?k2 ?k3 ?k4 ?k5 ?k6 ?_ ?_); (case k1 => k_asm); (case k2 => k_mem); (case k3 => k_mem); (case k4 => assumption); (case k5 => assumption); (case k6 => ktr_units); (all_goals intro e9))))
local macro_rules | `(tactic| walk_at "call builtin:len") => `(tactic| (k_here; k_dflt (k_dflt (refine' len_use ?k1 ?k2 ?k3 ?k4 ?_); (case k1 => k_asm); (case k2 => k_mem); (case k3 => assumption); (case k4 => assumption))))
local macro_rules | `(tactic| walk_at "binaryOp Mod int int") => `(tactic| (k_here; k_dflt ((rename (_ : List Str) ≠ [] => hne9); (with_reducible refine mod_use hne9 ?_))))
local macro_rules | `(tactic| walk_at "subscriptTail Name Name ref int") => `(tactic| (k_here; k_dflt (k_dflt (refine' sub_use ?k1 ?k2 ?k3 ?k4 ?k5 ?k6 ?_ ?k7; (case k1 => k_asm); (case k2 => k_mem); (case k3 => assumption); (case k4 => assumption); (case k5 => assumption); (case k6 => assumption); (case k7 => with_unfolding_all rfl)); intro t9 d9 lo9 hi9 g9)))
local macro_rules | `(tactic| walk_at "subscriptTail Name Constant ref int") => `(tactic| (exfalso; exact endZ (by assumption) (by assumption)))
local macro_rules | `(tactic| walk_at "subscriptTail Name Constant ref int") => `(tactic| (k_here; k_dflt (refine' item_anyK ?k1 ?k2 ?k3 ?k4 ?k5 ?_ ?k6; (case k1 => is_list); (case k2 => l_ints); (case k3 => decide); (case k4 => exact pos_of (by assumption)); (case k5 => decide); (case k6 => with_unfolding_all rfl)); intro _))
local macro_rules | `(tactic| walk_at "eval IfExp") => `(tactic| (k_here; (fail_if_success (rename CutMark => cm9)); k_dflt (refine' cut_int ?kF ?kN ?kw ?_; (case kF => k_asm); (case kN => k_asm); (case kw => (intro Q9 cm9 hk9; k_steps; all_goals (first | exact hk9 _ _ _ _ (by k_asm) (by k_asm) | exact hk9 _ _ _ _ (by k_asm) (cb_drop (by k_asm) (fun _ hp => .tail _ hp)))))); intro v9 t9 h9 tk9 F9 N9))
local macro_rules | `(tactic| walk_at "setItem ref int") => `(tactic| (k_here; k_dflt (k_dflt (refine' set_use ?k1 ?k2 ?k3 ?k4 ?k5 ?k6 ?_; (case k1 => k_asm); (case k2 => k_asm); (case k3 => k_upd); (case k4 => assumption); (case k5 => assumption); (case k6 => assumption)); intro h9 F9 N9 S9)))
local macro_rules | `(tactic| walk_at "call ref") => `(tactic| (k_here; k_dflt ((with_reducible show wpAny _ _ (call (Value.ref _) [Value.int _ _]) _ _ _); k_dflt (first | refine' cl_use (cl_inv_d _ _) ?k1 ?k2 ?k3 ?k4 ?k5 ?kK ?kp ?kd ?ku ?_ | refine' cl_use (cl_saltA _ _ _) ?k1 ?k2 ?k3 ?k4 ?k5 ?kK ?kp ?kd ?ku ?_ | refine' cl_use (cl_saltB _ _ _) ?k1 ?k2 ?k3 ?k4 ?k5 ?kK ?kp ?kd ?ku ?_); (case k1 => k_asm); (case k2 => k_asm); (case k3 => k_asm); (case k4 => k_asm); (case k5 => k_asm); (case kK => first | exact rfl | assumption); (case kp => trivial); (case kd => ktr_room); (case ku => ktr_units); intro t9 h9 tk9 P9 F9 N9; (try dsimp only); (try k_fold))))
local macro_rules | `(tactic| walk_at "call ref") => `(tactic| (k_here; k_dflt ((with_reducible show wpAny _ _ (call (Value.ref _) [Value.str _ _, Value.int _ _]) _ _ _); k_dflt (first | refine' cl_use (cl_zap _ _ _ _ _) ?k1 ?k2 ?k3 ?k4 ?k5 ?kK ?kp ?kd ?ku ?_ | refine' cl_use (cl_undone _ _ _ _ _) ?k1 ?k2 ?k3 ?k4 ?k5 ?kK ?kp ?kd ?ku ?_); (case k1 => k_asm); (case k2 => k_asm); (case k3 => k_asm); (case k4 => k_asm); (case k5 => k_asm); (case kK => first | exact rfl | assumption); (case kp => k_dflt (first | exact ⟨by assumption, fm_W _⟩ | exact ⟨by assumption, by assumption, fm_W _⟩)); (case kd => ktr_room); (case ku => ktr_units); intro t9 h9 tk9 P9 F9 N9; (try dsimp only); (try k_fold))))
local macro_rules | `(tactic| walk_at "call ref") => `(tactic| (k_here; k_dflt ((with_reducible show wpAny _ _ (call (Value.ref _) [Value.int _ _]) _ _ _); k_dflt (refine' name_use ?k1 ?k2 ?k3 ?k4 ?k5 ?kK ?kd ?ku ?_); (case k1 => k_asm); (case k2 => k_asm); (case k3 => k_asm); (case k4 => k_asm); (case k5 => k_asm); (case kK => first | exact rfl | assumption); (case kd => ktr_room); (case ku => ktr_units); intro l9 us9 ws9 c9 h9 tk9 F9 N9 q9 S9 n9 O9; (try k_lt q9); (try dsimp only); (try k_fold))))
theorem PySem.Challenge.cw_pb0579_01_holds : PySem.Challenge.rw_pb0579_01.Holds := by
  k_with_none
  refine Mine.hd ?_
  w_strict (k_go0; (all_goals try k_fold); (repeat' (first | (k_unfold; (try dsimp only)) | (k_end; exfalso; first | (refine' endB ?ea9 ?eb9 ?ec9 ?ed9 ?ee9; (case ea9 => with_reducible assumption); (case eb9 => with_reducible assumption); (case ec9 => with_reducible assumption); (case ed9 => with_reducible assumption); (case ee9 => with_reducible assumption)) | (refine' endA ?ea9 ?eb9; (case eb9 => with_reducible assumption); (case ea9 => with_reducible assumption))) | (k_end; wrow_close) | walk1 | (dsimp only; walk1) | (leave1; walk_say "STEP leave1"; try dsimp only) | fail "no step")); all_goals w_report)
