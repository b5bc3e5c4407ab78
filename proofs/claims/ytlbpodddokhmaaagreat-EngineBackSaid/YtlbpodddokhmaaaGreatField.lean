/-
  The plain law of GcmField: the products of 128 bits are those of a field. No program in sight.
  A polynomial is a number below 2^128; the coefficient of x^i is its bit 127 - i.
-/
import Derived.Test.YtlbpodddokhmaaaGreatExt
namespace Go.Proofs.YtlbpodddokhmaaaGreat.Field
/-- What x^128 is. -/
def R : Nat := 0xe1 * 2 ^ 120
/-- One where it holds. -/
def iff (c : Bool) (n : Nat) : Nat := if c then n else 0
/-- Times x. -/
def X (e : Nat) : Nat := (e >>> 1) ^^^ iff (e.testBit 0) R
def Xn : Nat → Nat → Nat
  | 0, e => e
  | n + 1, e => X (Xn n e)
def mulN (a b : Nat) : Nat → Nat
  | 0 => 0
  | n + 1 => mulN a b n ^^^ iff (a.testBit (127 - n)) (Xn n b)
def mul (a b : Nat) : Nat := mulN a b 128
def one : Nat := 2 ^ 127
theorem swap4 (a b c d : Nat) : (a ^^^ b) ^^^ (c ^^^ d) = (a ^^^ c) ^^^ (b ^^^ d) := by
  rw [Nat.xor_assoc, Nat.xor_assoc, ← Nat.xor_assoc b c d, ← Nat.xor_assoc c b d, Nat.xor_comm b c]
theorem iff_xor (c d : Bool) (n : Nat) : iff (c ^^ d) n = iff c n ^^^ iff d n := by
  cases c <;> cases d <;> simp [iff, Nat.xor_self]
theorem iff_add (c : Bool) (m n : Nat) : iff c (m ^^^ n) = iff c m ^^^ iff c n := by
  cases c <;> simp [iff]
theorem X_zero : X 0 = 0 := by decide
theorem X_add (a b : Nat) : X (a ^^^ b) = X a ^^^ X b := by
  unfold X
  rw [Nat.testBit_xor, iff_xor, Nat.shiftRight_xor_distrib, swap4]
theorem X_iff (c : Bool) (n : Nat) : X (iff c n) = iff c (X n) := by
  cases c <;> simp [iff, X_zero]
theorem Xn_add (n a b : Nat) : Xn n (a ^^^ b) = Xn n a ^^^ Xn n b := by
  induction n with
  | zero => rfl
  | succ n ih => show X (Xn n _) = X _ ^^^ X _; rw [ih, X_add]
theorem Xn_X (n a : Nat) : Xn n (X a) = X (Xn n a) := by
  induction n with
  | zero => rfl
  | succ n ih => show X (Xn n _) = X (X _); rw [ih]
theorem mulN_right (a b c n : Nat) : mulN a (b ^^^ c) n = mulN a b n ^^^ mulN a c n := by
  induction n with
  | zero => simp [mulN]
  | succ n ih => show mulN _ _ n ^^^ _ = (mulN _ _ n ^^^ _) ^^^ (mulN _ _ n ^^^ _); rw [ih, Xn_add, iff_add, swap4]
theorem mulN_left (a b c n : Nat) : mulN (a ^^^ b) c n = mulN a c n ^^^ mulN b c n := by
  induction n with
  | zero => simp [mulN]
  | succ n ih => show mulN _ _ n ^^^ _ = (mulN _ _ n ^^^ _) ^^^ (mulN _ _ n ^^^ _); rw [ih, Nat.testBit_xor, iff_xor, swap4]
theorem mulN_X (a b n : Nat) : mulN a (X b) n = X (mulN a b n) := by
  induction n with
  | zero => exact X_zero.symm
  | succ n ih => show mulN _ _ n ^^^ _ = X (mulN _ _ n ^^^ _); rw [ih, X_add, X_iff, Xn_X]
theorem mul_X (a b : Nat) : mul a (X b) = X (mul a b) := mulN_X a b 128
theorem mul_add (a b c : Nat) : mul a (b ^^^ c) = mul a b ^^^ mul a c := mulN_right a b c 128
theorem add_mul (a b c : Nat) : mul (a ^^^ b) c = mul a c ^^^ mul b c := mulN_left a b c 128
theorem mulN_zero (a n : Nat) : mulN a 0 n = 0 := by
  have := mulN_right a 0 0 n
  simpa [Nat.xor_self] using this
theorem mul_zero (a : Nat) : mul a 0 = 0 := mulN_zero a 128
theorem mul_iff (a b : Nat) (c : Bool) : mul a (iff c b) = iff c (mul a b) := by
  cases c <;> simp [iff, mul_zero]
theorem mul_Xn (a b n : Nat) : mul a (Xn n b) = Xn n (mul a b) := by
  induction n with
  | zero => rfl
  | succ n ih => show mul a (X _) = X _; rw [mul_X, ih]
theorem mul_mulN (a b c n : Nat) : mul a (mulN b c n) = mulN b (mul a c) n := by
  induction n with
  | zero => exact mul_zero a
  | succ n ih => show mul a (mulN _ _ n ^^^ _) = mulN _ _ n ^^^ _; rw [mul_add, ih, mul_iff, mul_Xn]
theorem mul_left_comm (a b c : Nat) : mul a (mul b c) = mul b (mul a c) := mul_mulN a b c 128
/-- The powers of x. -/
theorem Xn_one : ∀ n : Fin 128, Xn n.val one = 2 ^ (127 - n.val) := by decide +kernel
theorem mulN_one (a : Nat) : ∀ n, n ≤ 128 → ∀ i, (mulN a one n).testBit i = (decide (128 ≤ i + n ∧ i < 128) && a.testBit i)
  | 0, _, i => by simp [mulN]; omega
  | n + 1, h, i => by
    have e : Xn n one = 2 ^ (127 - n) := Xn_one ⟨n, by omega⟩
    show (mulN a one n ^^^ _).testBit i = _
    rw [Nat.testBit_xor, mulN_one a n (by omega) i, e]
    by_cases hi : i = 127 - n
    · subst hi
      have h1 : decide (128 ≤ 127 - n + n ∧ 127 - n < 128) = false := by simp; omega
      have h2 : decide (128 ≤ 127 - n + (n + 1) ∧ 127 - n < 128) = true := by simp; omega
      rw [h1, h2]
      cases hb : a.testBit (127 - n) <;> simp [iff]
    · have h1 : decide (128 ≤ i + n ∧ i < 128) = decide (128 ≤ i + (n + 1) ∧ i < 128) := by
        apply decide_eq_decide.2; omega
      rw [h1]
      cases hb : a.testBit (127 - n) <;> simp [iff, Ne.symm hi]
theorem mul_one {a : Nat} (h : a < 2 ^ 128) : mul a one = a := by
  apply Nat.eq_of_testBit_eq
  intro i
  rw [mul, mulN_one a 128 (Nat.le_refl _) i]
  by_cases hi : i < 128
  · simp [hi]
  · have : a.testBit i = false := Nat.testBit_lt_two_pow (Nat.lt_of_lt_of_le h (Nat.pow_le_pow_right (by omega) (by omega)))
    simp [this]
theorem mul_comm {a b : Nat} (ha : a < 2 ^ 128) (hb : b < 2 ^ 128) : mul a b = mul b a := by
  have := mul_left_comm a b one
  rwa [mul_one hb, mul_one ha] at this
theorem X_lt {a : Nat} (h : a < 2 ^ 128) : X a < 2 ^ 128 := by
  unfold X
  refine Nat.xor_lt_two_pow (by rw [Nat.shiftRight_eq_div_pow]; omega) ?_
  unfold iff R
  split <;> decide
theorem Xn_lt {a : Nat} (h : a < 2 ^ 128) : ∀ n, Xn n a < 2 ^ 128
  | 0 => h
  | n + 1 => X_lt (Xn_lt h n)
theorem mulN_lt {a b : Nat} (h : b < 2 ^ 128) : ∀ n, mulN a b n < 2 ^ 128
  | 0 => by simp [mulN]
  | n + 1 => Nat.xor_lt_two_pow (mulN_lt h n) (by unfold iff; split; exact Xn_lt h n; decide)
theorem mul_lt {a b : Nat} (h : b < 2 ^ 128) : mul a b < 2 ^ 128 := mulN_lt h 128
theorem mul_assoc {a b c : Nat} (_ha : a < 2 ^ 128) (hb : b < 2 ^ 128) (hc : c < 2 ^ 128) : mul (mul a b) c = mul a (mul b c) := by
  rw [mul_comm (mul_lt hb) hc, mul_left_comm, mul_comm hc hb]
/-! ### No zero divisors -/
/-- The product, step by step. -/
def go (a : Nat) : Nat → Nat → Nat → Nat → Nat
  | 0, _, _, out => out
  | f + 1, n, b, out => go a f (n + 1) (X b) (out ^^^ iff (a.testBit (127 - n)) b)
theorem go_eq (a b : Nat) : ∀ f n, go a f n (Xn n b) (mulN a b n) = mulN a b (n + f)
  | 0, n => rfl
  | f + 1, n => by
    have := go_eq a b f (n + 1)
    rw [show n + (f + 1) = n + 1 + f by omega]
    exact this
theorem go_mul (a b : Nat) : go a 128 0 b 0 = mul a b := go_eq a b 128 0
def sq (a : Nat) : Nat := mul a a
def sqF (a : Nat) : Nat := go a 128 0 a 0
theorem sqF_eq (a : Nat) : sqF a = sq a := go_mul a a
def sqn : Nat → Nat → Nat
  | 0, a => a
  | n + 1, a => sq (sqn n a)
def sqnF : Nat → Nat → Nat
  | 0, a => a
  | n + 1, a => sqF (sqnF n a)
theorem sqnF_eq (a : Nat) : ∀ n, sqnF n a = sqn n a
  | 0 => rfl
  | n + 1 => by show sqF _ = sq _; rw [sqnF_eq a n, sqF_eq]
theorem sq_lt {a : Nat} (h : a < 2 ^ 128) : sq a < 2 ^ 128 := mul_lt h
theorem sqn_lt {a : Nat} (h : a < 2 ^ 128) : ∀ n, sqn n a < 2 ^ 128
  | 0 => h
  | n + 1 => sq_lt (sqn_lt h n)
theorem sq_add {a b : Nat} (ha : a < 2 ^ 128) (hb : b < 2 ^ 128) : sq (a ^^^ b) = sq a ^^^ sq b := by
  unfold sq
  rw [mul_add, add_mul, add_mul, mul_comm hb ha, ← Nat.xor_assoc, Nat.xor_assoc (mul a a), Nat.xor_self, Nat.xor_zero]
theorem sq_mul {a b : Nat} (ha : a < 2 ^ 128) (hb : b < 2 ^ 128) : sq (mul a b) = mul (sq a) (sq b) := by
  unfold sq
  rw [mul_assoc ha hb (mul_lt hb), mul_left_comm b a b, mul_assoc ha ha (mul_lt hb)]
theorem sqn_add {a b : Nat} (ha : a < 2 ^ 128) (hb : b < 2 ^ 128) : ∀ n, sqn n (a ^^^ b) = sqn n a ^^^ sqn n b
  | 0 => rfl
  | n + 1 => by show sq _ = sq _ ^^^ sq _; rw [sqn_add ha hb n, sq_add (sqn_lt ha n) (sqn_lt hb n)]
theorem sqn_mul {a b : Nat} (ha : a < 2 ^ 128) (hb : b < 2 ^ 128) : ∀ n, sqn n (mul a b) = mul (sqn n a) (sqn n b)
  | 0 => rfl
  | n + 1 => by show sq _ = mul (sq _) (sq _); rw [sqn_mul ha hb n, sq_mul (sqn_lt ha n) (sqn_lt hb n)]
/-- Two maps that keep sums, and are alike at the powers of 2, are alike. -/
theorem lin_ext (f g : Nat → Nat) (hf : ∀ a b, a < 2 ^ 128 → b < 2 ^ 128 → f (a ^^^ b) = f a ^^^ f b) (hg : ∀ a b, a < 2 ^ 128 → b < 2 ^ 128 → g (a ^^^ b) = g a ^^^ g b)
    (h : ∀ i, i < 128 → f (2 ^ i) = g (2 ^ i)) : ∀ n, n ≤ 128 → ∀ e, e < 2 ^ n → f e = g e
  | 0, _, e, he => by
    obtain rfl : e = 0 := by omega
    have h1 := hf 0 0 (by decide) (by decide)
    have h2 := hg 0 0 (by decide) (by decide)
    rw [Nat.xor_self, Nat.xor_self] at h1 h2
    rw [h1, h2]
  | n + 1, hn, e, he => by
    have hp : 2 ^ (n + 1) ≤ 2 ^ 128 := Nat.pow_le_pow_right (by omega) hn
    have hp' : 2 ^ n < 2 ^ 128 := Nat.pow_lt_pow_right (by omega) (by omega)
    cases hb : e.testBit n
    · refine lin_ext f g hf hg h n (by omega) e ?_
      refine Nat.lt_pow_two_of_testBit e fun i hi => ?_
      by_cases hin : i = n
      · rw [hin, hb]
      · exact Nat.testBit_lt_two_pow (Nat.lt_of_lt_of_le he (Nat.pow_le_pow_right (by omega) (by omega)))
    · have hlow : e ^^^ 2 ^ n < 2 ^ n := by
        refine Nat.lt_pow_two_of_testBit _ fun i hi => ?_
        rw [Nat.testBit_xor]
        by_cases hin : i = n
        · subst hin; rw [hb]; simp
        · rw [Nat.testBit_lt_two_pow (Nat.lt_of_lt_of_le he (Nat.pow_le_pow_right (by omega) (by omega))), Nat.testBit_two_pow]
          simp; omega
      have e1 : e = (e ^^^ 2 ^ n) ^^^ 2 ^ n := by rw [Nat.xor_assoc, Nat.xor_self, Nat.xor_zero]
      rw [e1, hf _ _ (by omega) hp', hg _ _ (by omega) hp', h n (by omega), lin_ext f g hf hg h n (by omega) _ hlow]
theorem lin_all (f g : Nat → Nat) (hf : ∀ a b, a < 2 ^ 128 → b < 2 ^ 128 → f (a ^^^ b) = f a ^^^ f b) (hg : ∀ a b, a < 2 ^ 128 → b < 2 ^ 128 → g (a ^^^ b) = g a ^^^ g b)
    (h : ∀ i, i < 128 → f (2 ^ i) = g (2 ^ i)) {e : Nat} (he : e < 2 ^ 128) : f e = g e := lin_ext f g hf hg h 128 (Nat.le_refl _) e he
theorem one_lt : one < 2 ^ 128 := by decide
theorem one_mul {a : Nat} (h : a < 2 ^ 128) : mul one a = a := by rw [mul_comm one_lt h, mul_one h]
theorem sqn_one : ∀ n, sqn n one = one
  | 0 => rfl
  | n + 1 => by show sq _ = _; rw [sqn_one n]; exact mul_one one_lt
theorem sqn_x : sqn 128 (X one) = X one := by
  rw [← sqnF_eq]
  decide +kernel
theorem X_mul {a : Nat} (h : a < 2 ^ 128) : mul (X one) a = X a := by
  rw [mul_comm (X_lt one_lt) h, mul_X, mul_one h]
theorem sqn_Xn : ∀ n, sqn 128 (Xn n one) = Xn n one
  | 0 => sqn_one 128
  | n + 1 => by
    show sqn 128 (X _) = X _
    rw [← X_mul (Xn_lt one_lt n), sqn_mul (X_lt one_lt) (Xn_lt one_lt n), sqn_x, sqn_Xn n]
theorem sqn_all {a : Nat} (h : a < 2 ^ 128) : sqn 128 a = a := by
  refine lin_all (sqn 128) id (fun a b ha hb => sqn_add ha hb 128) (fun _ _ _ _ => rfl) (fun i hi => ?_) h
  have := Xn_one ⟨127 - i, by omega⟩
  simp only [show 127 - (127 - i) = i by omega] at this
  rw [← this]
  exact sqn_Xn _
/-- A map that undoes 'e goes to e * e + e', but for the coefficient of x^0. -/
def Tl : List Nat → Nat → Nat
  | [], _ => 0
  | t :: l, v => iff (v.testBit 0) t ^^^ Tl l (v >>> 1)
theorem Tl_add : ∀ (l : List Nat) (a b : Nat), Tl l (a ^^^ b) = Tl l a ^^^ Tl l b
  | [], a, b => by simp [Tl]
  | t :: l, a, b => by
    show iff _ t ^^^ Tl l _ = (iff _ t ^^^ Tl l _) ^^^ (iff _ t ^^^ Tl l _)
    rw [Nat.testBit_xor, iff_xor, Nat.shiftRight_xor_distrib, Tl_add l, swap4]
def tab : List Nat := [0, 6161591008139076202154902373133594561, 71430717218983613641036104277415506289, 87518597585245962833849474628053070758, 72921817864677867521778898634038080609, 163309321578052146879237778733101511783, 126814247099887467207929949960147586332, 133487668004820722767044853458355047125, 108887185710678174598840578861931466132, 72978216601350599296199603180564021825, 126976600203468727039316187211004055892, 49689517519420395515082114066310337331, 12764899024296983899235621676887115841, 59792954277794326371429463258526948146, 275464514806027128612938827324864, 33882886127255646541338116557250298163, 133385434108064708788808215410435911893, 153238470225796905537047657204766862374, 127777348636302309636952298273557535380, 58594334107495617071392172125656399538, 5725366257701666555538562805218717057, 159324042485362592547018579093184240551, 149021274876537960721224429182834492454, 94333773739946854309780815578084996199, 161752945482599484730126084874801441767, 115575792119390728221592460023876181333, 133436244703473040169882794575366898389, 34751610155981195849944733847405496627, 100972845268357601278728964017462078439, 44935323831972008745566419208193456946, 132003651752985294974180122299820886164, 45594221442569777339127844318073854322, 100983558286137050684044238585428660711, 140308235276559149970208740923126577813, 92325303522414418149753570460923091879, 26944628100264108509229864938392397555, 81071795988965022717357904530596407232, 58275656592719279154056000246173111091, 51613027339492204128265575524803459891, 142140898696765075202304690604976981845, 53639910565545342273528145980335791795, 4726979706490419237355323591502507968, 161542955870533464563010084267448332775, 65334779303751560239471195525024588352, 122557457634345817322758110469731963540, 79569572988994598121356082874814992321, 9537274821874957483351388617584152641, 109427184872331881977228478262674814292, 96504253903287235160744645914913229863, 35809052500294759256374056413191545715, 63089105448741488643398279942380763954, 84108490886122099842324906724524496768, 161537358671016203777973217828391545831, 49921000058860506912943830473554996979, 113870918609522322281985099445019275925, 45994406431766860863727072382817147250, 6116654749483988959971426010360459777, 88394181539591460295416373139500891046, 93226277353508642900164249188457535015, 123506241354959402090274531190302866772, 72992884249465865451566362034747193217, 123492369307601207700488716387690115284, 67288019353279926038130604499846823936, 96617416833907240315124182200439430055, 6161591008139076220601646446843146177, 87518597585245962796955986480633967526, 163309321578052146805450802438263305319, 133487668004820722619470900868678634197, 72978216601350599591347508359916847681, 49689517519420396105377924425015989043, 59792954277794325190837842541115644722, 33882886127255648902521357992072905011, 153238470225796900814681174335121648678, 58594334107495626516125137864946826930, 159324042485362573657552647614603385767, 94333773739946892088712678535246705767, 115575792119390803779456185938199600469, 34751610155981346965672185676052334899, 44935323831971706514111515550899780402, 45594221442570381802037651632661207410, 140308235276560358896028355552301283989, 26944628100266526360869094196741809907, 58275656592714443450777541729474286387, 142140898696755403795747773571579332437, 4726979706471076424241489524707209152, 65334779303712874613243527391433990720, 79569572989071969373811419141996187585, 109427184872177139472317805728312423764, 35809052500604244266195401481916326771, 84108490886741069861967596861974058880, 49921000057622566873658450198655872755, 45994406429290980785156311833018898802, 88394181544543220452557894239097387942, 123506241345055881775991488991109872980, 123492369287794167071922631989304127700, 96617416873521321572256350997211405223, 87518597506017800282691648887090017190, 133487668163277047647999576055766534869, 49689517202507746048320574050840187699, 33882886761080949016636058740424507699, 58594332839845026287895736368243621554, 94333771204645691632253875541840295015, 34751615226583747878589791662865156403, 45594211301365579976202439659035564402, 26944648382676130012539518143993095923, 142140858131936196492406925677076760405, 65334698174074460006561831602428846656, 109427022612900310258954414150302135636, 84108166368187411435240813705953482624, 45993757392183663931702745520977746290, 123504943270841248069084356367027567956, 96614820725092054158442085749046795175, 133492860460135582475628106552095754965, 33893271354798018671893119733082947891, 94354540392079830942767997527157175399, 45552672926497301355174195688401803634, 142223934881672753734463413618344281941, 109593176112373424743067390032837178708, 46326064391129892899928697286047832434, 95950206727199596221990182218906622887, 32564043359013102798989312672802603315, 42894216934927469609366581567841114482, 114910088095513088234682618273958557012, 85316382760920269238759725736663866279, 64161864867486123575827494532326627698, 127851678626037577171681551665634892711, 42781086895802961305837899807692839847, 22349210433241643211303706255459310228]
def T (v : Nat) : Nat := Tl tab v
theorem T_basis : ∀ i : Fin 128, T (sqF (2 ^ i.val) ^^^ 2 ^ i.val) = 2 ^ i.val ^^^ iff ((2 ^ i.val).testBit 127) one := by decide +kernel
theorem T_all {e : Nat} (h : e < 2 ^ 128) : T (sq e ^^^ e) = e ^^^ iff (e.testBit 127) one := by
  refine lin_all (fun e => T (sq e ^^^ e)) (fun e => e ^^^ iff (e.testBit 127) one) (fun a b ha hb => ?_) (fun a b _ _ => ?_) (fun i hi => ?_) h
  · show T _ = T _ ^^^ T _
    unfold T
    rw [sq_add ha hb, swap4, Tl_add]
  · show (a ^^^ b) ^^^ iff ((a ^^^ b).testBit 127) one = _
    rw [Nat.testBit_xor, iff_xor, swap4]
  · have := T_basis ⟨i, hi⟩
    rw [sqF_eq] at this
    exact this
theorem T_zero : T 0 = 0 := by decide +kernel
/-- What is its own square is 0, or 1. -/
theorem idem {e : Nat} (h : e < 2 ^ 128) (hs : sq e = e) : e = 0 ∨ e = one := by
  have ht := T_all h
  rw [hs, Nat.xor_self, T_zero] at ht
  have h2 : e ^^^ (e ^^^ iff (e.testBit 127) one) = iff (e.testBit 127) one := by rw [← Nat.xor_assoc, Nat.xor_self, Nat.zero_xor]
  have : e = iff (e.testBit 127) one := by rw [← ht, Nat.xor_zero] at h2; exact h2
  cases hb : e.testBit 127
  · rw [hb] at this; exact .inl this
  · rw [hb] at this; exact .inr this
/-- a to the 2^k - 1. -/
def q (a : Nat) : Nat → Nat
  | 0 => one
  | k + 1 => mul a (sq (q a k))
theorem q_lt (a : Nat) : ∀ k, q a k < 2 ^ 128
  | 0 => one_lt
  | k + 1 => mul_lt (sq_lt (q_lt a k))
theorem mul_q {a : Nat} (h : a < 2 ^ 128) : ∀ k, mul a (q a k) = sqn k a
  | 0 => mul_one h
  | k + 1 => by
    show mul a (mul a (sq (q a k))) = sq _
    rw [← mul_q h k, sq_mul h (q_lt a k)]
    unfold sq
    rw [mul_assoc h h (mul_lt (q_lt a k))]
theorem no_zero {a b : Nat} (ha : a < 2 ^ 128) (hb : b < 2 ^ 128) (h : mul a b = 0) : a = 0 ∨ b = 0 := by
  have he : mul a (q a 128) = a := by rw [mul_q ha 128, sqn_all ha]
  have hc : q a 128 = mul a (sq (q a 127)) := rfl
  have hcl : sq (q a 127) < 2 ^ 128 := sq_lt (q_lt a 127)
  have hi : sq (q a 128) = q a 128 := by
    show mul (q a 128) (q a 128) = q a 128
    conv => lhs; arg 1; rw [hc]
    rw [mul_comm ha hcl, mul_assoc hcl ha (q_lt a 128), he, mul_comm hcl ha, ← hc]
  rcases idem (q_lt a 128) hi with e | e
  · left
    rw [e, mul_zero] at he
    exact he.symm
  · right
    rw [hc] at e
    have : mul (mul a (sq (q a 127))) b = b := by rw [e, one_mul hb]
    rw [mul_comm ha hcl, mul_assoc hcl ha hb, h, mul_zero] at this
    exact this.symm
end Go.Proofs.YtlbpodddokhmaaaGreat.Field
