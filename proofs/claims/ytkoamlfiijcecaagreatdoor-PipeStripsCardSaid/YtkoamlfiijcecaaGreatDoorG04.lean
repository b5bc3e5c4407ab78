/-
  Several texts in one: Cbr1 Crc1 Crc2 Sx7 Ite1 Irw Sxk Ite2 Sx8 Sx9 Rel2.
  Conditions: named at each.
-/
import Derived.Test.YtkoamlfiijcecaaGreatDoorG03
import Derived.MapKept
import Derived.ChangeMaps5
set_option maxHeartbeats 16000000
set_option linter.unusedSimpArgs false
set_option linter.unusedVariables false
set_option linter.unusedSectionVars false
namespace Go.Proofs.YtkoamlfiijcecaaGreatDoor.Sx
open Go.ChangeShapes Go.WideShapes Go.ChangeAt Go.RowKit Go.Deep
def shf(n:Nat)(k:Nat):UInt8:=UInt8.ofNat (IntKind.u8.wrap ((n:Int).fdiv (2^k))).toNat
theorem mG(n k i:Nat)(h:2^k=256^i):shf n k=UInt8.ofNat (n/256^i):=by
 unfold shf;have e:((n:Int).fdiv (2^k))=((n/2^k:Nat):Int):=by
  rw[Int.fdiv_eq_ediv_of_nonneg _ (by exact Int.le_of_lt (Int.pow_pos (by decide)))];simp
 rw[e,h];generalize n/256^i=m;have:IntKind.u8.wrap (m:Int)=((m%256:Nat):Int):=by simp[IntKind.wrap,IntKind.bits,IntKind.signed]
 rw[this];apply UInt8.toNat_inj.1;simp;omega
theorem RK(n:Nat)(w:World)(h:n<2^8):CP 262 #[.int .u8 (n:Int),.int .i64 1] w (Ret (.string (B (Itm.dg n 1))) w):=by
 have f:IntKind.u64.wrap (n:Int)=(n:Int):=u64_in oW oW;refine dF 29 Tryz.func262 ?_;refine zQ 1 (zn (zQ 1 (aW (λa=>(zq 1 (zn (zs (zQ 3 (zn (aB (eF (α:=Nat) (λx=>match x with|0=>[0,1,4,5,10,11].zip [(.int .u8 (n:Int)),(I6 1),(St []),(Sl a 0 1 1),(I6 1),(I6 0)]|_=>[0,1,4,5,10,11].zip [(.int .u8 (n:Int)),(I6 1),(St []),(Sl a 0 1 1),(I6 1),(I6 1)]) (λ_=>View.no) (λx=>match x with|0=>[(bK a [(.int .u8 0)] 5)]|_=>[(bK a [(.int .u8 (IntKind.u8.wrap (((n:Int)).fdiv (2^0))))] 5)]) (λx=>x<=1) (λx=>1-x) 0 oW ?_)))))))))));rintro x j;rcases(by omega:x=0\/x=1)with rfl|rfl
 ·refine zQ 1 (zn (zs (dM (zk (zs (aB (zQ 2 (zn (zr (zq 4 (dZ 17 (U6 (IntKind.u64.wrap (n:Int))) (N6 n) (M0 (Value.int .u64) f) ?_)))))))))));refine zq 8 (aX 0 a (zn (zr (zq 2 (zn ?_)))));refine nx 1 oW (by show 1-1<1-0;omega)
 ·refine zQ 1 (zn (zs (cU (aI (zB [0,1,0] [(a,1)] (zn (aA (aO [4] [(St [UInt8.ofNat ((IntKind.u8.wrap (((n:Int)).fdiv (2^0))):Int).toNat])] (λg d=>?_)))))))));refine⟨?_,d.below⟩;show Ending.returned (Value.string (B [shf n 0]))=_;rw[mG n 0 0 (by decide)];rfl
theorem RJ(n:Nat)(w:World)(h:n<2^16):CP 263 #[.int .u16 (n:Int),.int .i64 2] w (Ret (.string (B (Itm.dg n 2))) w):=by
 have d:IntKind.u64.wrap (n:Int)=(n:Int):=u64_in oW oW;refine dF 29 Tryz.func263 ?_;refine zQ 1 (zn (zQ 1 (aW (λa=>(zq 1 (zn (zs (zQ 3 (zn (aB (eF (α:=Nat) (λx=>match x with|0=>[0,1,4,5,10,11].zip [(.int .u16 (n:Int)),(I6 2),(St []),(Sl a 0 2 2),(I6 2),(I6 0)]|1=>[0,1,4,5,10,11].zip [(.int .u16 (n:Int)),(I6 2),(St []),(Sl a 0 2 2),(I6 2),(I6 1)]|_=>[0,1,4,5,10,11].zip [(.int .u16 (n:Int)),(I6 2),(St []),(Sl a 0 2 2),(I6 2),(I6 2)]) (λ_=>View.no) (λx=>match x with|0=>[(bK a [(.int .u8 0),(.int .u8 0)] 5)]|1=>[(bK a [(.int .u8 (IntKind.u8.wrap (((n:Int)).fdiv (2^8)))),(.int .u8 0)] 5)]|_=>[(bK a [(.int .u8 (IntKind.u8.wrap (((n:Int)).fdiv (2^8)))),(.int .u8 (IntKind.u8.wrap (((n:Int)).fdiv (2^0))))] 5)]) (λx=>x<=2) (λx=>2-x) 0 oW ?_)))))))))));rintro x j;rcases(by omega:x=0\/x=1\/x=2)with rfl|rfl|rfl
 ·refine zQ 1 (zn (zs (dM (zk (zs (aB (zQ 2 (zn (zr (zq 4 (dZ 17 (U6 (IntKind.u64.wrap (n:Int))) (N6 n) (M0 (Value.int .u64) d) ?_)))))))))));refine zq 8 (aX 0 a (zn (zr (zq 2 (zn ?_)))));refine nx 1 oW (by show 2-1<2-0;omega)
 ·refine zQ 1 (zn (zs (dM (zk (zs (aB (zQ 2 (zn (zr (zq 4 (dZ 17 (U6 (IntKind.u64.wrap (n:Int))) (N6 n) (M0 (Value.int .u64) d) ?_)))))))))));refine zq 8 (aX 0 a (zn (zr (zq 2 (zn ?_)))));refine nx 2 oW (by show 2-2<2-1;omega)
 ·refine zQ 1 (zn (zs (cU (aI (zB [0,1,0] [(a,2)] (zn (aA (aO [4] [(St [UInt8.ofNat ((IntKind.u8.wrap (((n:Int)).fdiv (2^8))):Int).toNat,UInt8.ofNat ((IntKind.u8.wrap (((n:Int)).fdiv (2^0))):Int).toNat])] (λg f=>?_)))))))));refine⟨?_,f.below⟩;show Ending.returned (Value.string (B [shf n 8,shf n 0]))=_;rw[mG n 8 1 (by decide),mG n 0 0 (by decide)];rfl
theorem RI(n:Nat)(w:World)(h:n<2^32):CP 264 #[.int .u32 (n:Int),.int .i64 4] w (Ret (.string (B (Itm.dg n 4))) w):=by
 have d:IntKind.u64.wrap (n:Int)=(n:Int):=u64_in oW oW;refine dF 29 Tryz.func264 ?_;refine zQ 1 (zn (zQ 1 (aW (λa=>(zq 1 (zn (zs (zQ 3 (zn (aB (eF (α:=Nat) (λx=>match x with|0=>[0,1,4,5,10,11].zip [(.int .u32 (n:Int)),(I6 4),(St []),(Sl a 0 4 4),(I6 4),(I6 0)]|1=>[0,1,4,5,10,11].zip [(.int .u32 (n:Int)),(I6 4),(St []),(Sl a 0 4 4),(I6 4),(I6 1)]|2=>[0,1,4,5,10,11].zip [(.int .u32 (n:Int)),(I6 4),(St []),(Sl a 0 4 4),(I6 4),(I6 2)]|3=>[0,1,4,5,10,11].zip [(.int .u32 (n:Int)),(I6 4),(St []),(Sl a 0 4 4),(I6 4),(I6 3)]|_=>[0,1,4,5,10,11].zip [(.int .u32 (n:Int)),(I6 4),(St []),(Sl a 0 4 4),(I6 4),(I6 4)]) (λ_=>View.no) (λx=>match x with|0=>[(bK a [(.int .u8 0),(.int .u8 0),(.int .u8 0),(.int .u8 0)] 5)]|1=>[(bK a [(.int .u8 (IntKind.u8.wrap (((n:Int)).fdiv (2^24)))),(.int .u8 0),(.int .u8 0),(.int .u8 0)] 5)]|2=>[(bK a [(.int .u8 (IntKind.u8.wrap (((n:Int)).fdiv (2^24)))),(.int .u8 (IntKind.u8.wrap (((n:Int)).fdiv (2^16)))),(.int .u8 0),(.int .u8 0)] 5)]|3=>[(bK a [(.int .u8 (IntKind.u8.wrap (((n:Int)).fdiv (2^24)))),(.int .u8 (IntKind.u8.wrap (((n:Int)).fdiv (2^16)))),(.int .u8 (IntKind.u8.wrap (((n:Int)).fdiv (2^8)))),(.int .u8 0)] 5)]|_=>[(bK a [(.int .u8 (IntKind.u8.wrap (((n:Int)).fdiv (2^24)))),(.int .u8 (IntKind.u8.wrap (((n:Int)).fdiv (2^16)))),(.int .u8 (IntKind.u8.wrap (((n:Int)).fdiv (2^8)))),(.int .u8 (IntKind.u8.wrap (((n:Int)).fdiv (2^0))))] 5)]) (λx=>x<=4) (λx=>4-x) 0 oW ?_)))))))))));rintro x j;rcases(by omega:x=0\/x=1\/x=2\/x=3\/x=4)with rfl|rfl|rfl|rfl|rfl
 ·refine zQ 1 (zn (zs (dM (zk (zs (aB (zQ 2 (zn (zr (zq 4 (dZ 17 (U6 (IntKind.u64.wrap (n:Int))) (N6 n) (M0 (Value.int .u64) d) ?_)))))))))));refine zq 8 (aX 0 a (zn (zr (zq 2 (zn ?_)))));refine nx 1 oW (by show 4-1<4-0;omega)
 ·refine zQ 1 (zn (zs (dM (zk (zs (aB (zQ 2 (zn (zr (zq 4 (dZ 17 (U6 (IntKind.u64.wrap (n:Int))) (N6 n) (M0 (Value.int .u64) d) ?_)))))))))));refine zq 8 (aX 0 a (zn (zr (zq 2 (zn ?_)))));refine nx 2 oW (by show 4-2<4-1;omega)
 ·refine zQ 1 (zn (zs (dM (zk (zs (aB (zQ 2 (zn (zr (zq 4 (dZ 17 (U6 (IntKind.u64.wrap (n:Int))) (N6 n) (M0 (Value.int .u64) d) ?_)))))))))));refine zq 8 (aX 0 a (zn (zr (zq 2 (zn ?_)))));refine nx 3 oW (by show 4-3<4-2;omega)
 ·refine zQ 1 (zn (zs (dM (zk (zs (aB (zQ 2 (zn (zr (zq 4 (dZ 17 (U6 (IntKind.u64.wrap (n:Int))) (N6 n) (M0 (Value.int .u64) d) ?_)))))))))));refine zq 8 (aX 0 a (zn (zr (zq 2 (zn ?_)))));refine nx 4 oW (by show 4-4<4-3;omega)
 ·refine zQ 1 (zn (zs (cU (aI (zB [0,1,0] [(a,4)] (zn (aA (aO [4] [(St [UInt8.ofNat ((IntKind.u8.wrap (((n:Int)).fdiv (2^24))):Int).toNat,UInt8.ofNat ((IntKind.u8.wrap (((n:Int)).fdiv (2^16))):Int).toNat,UInt8.ofNat ((IntKind.u8.wrap (((n:Int)).fdiv (2^8))):Int).toNat,UInt8.ofNat ((IntKind.u8.wrap (((n:Int)).fdiv (2^0))):Int).toNat])] (λg f=>?_)))))))));refine⟨?_,f.below⟩;show Ending.returned (Value.string (B [shf n 24,shf n 16,shf n 8,shf n 0]))=_;rw[mG n 24 3 (by decide),mG n 16 2 (by decide),mG n 8 1 (by decide),mG n 0 0 (by decide)];rfl
theorem RH(n:Nat)(w:World)(h:n<2^64):CP 265 #[.int .u64 (n:Int),.int .i64 8] w (Ret (.string (B (Itm.dg n 8))) w):=by
 have g:IntKind.u64.wrap (n:Int)=(n:Int):=u64_in oW oW;refine dF 28 Tryz.func265 ?_;refine zQ 1 (zn (zQ 1 (aW (λa=>(zq 1 (zn (zs (zQ 3 (zn (aB (eF (α:=Nat) (λx=>match x with|0=>[0,1,4,5,10,11].zip [(N6 n),(I6 8),(St []),(Sl a 0 8 8),(I6 8),(I6 0)]|1=>[0,1,4,5,10,11].zip [(N6 n),(I6 8),(St []),(Sl a 0 8 8),(I6 8),(I6 1)]|2=>[0,1,4,5,10,11].zip [(N6 n),(I6 8),(St []),(Sl a 0 8 8),(I6 8),(I6 2)]|3=>[0,1,4,5,10,11].zip [(N6 n),(I6 8),(St []),(Sl a 0 8 8),(I6 8),(I6 3)]|4=>[0,1,4,5,10,11].zip [(N6 n),(I6 8),(St []),(Sl a 0 8 8),(I6 8),(I6 4)]|5=>[0,1,4,5,10,11].zip [(N6 n),(I6 8),(St []),(Sl a 0 8 8),(I6 8),(I6 5)]|6=>[0,1,4,5,10,11].zip [(N6 n),(I6 8),(St []),(Sl a 0 8 8),(I6 8),(I6 6)]|7=>[0,1,4,5,10,11].zip [(N6 n),(I6 8),(St []),(Sl a 0 8 8),(I6 8),(I6 7)]|_=>[0,1,4,5,10,11].zip [(N6 n),(I6 8),(St []),(Sl a 0 8 8),(I6 8),(I6 8)]) (λ_=>View.no) (λx=>match x with|0=>[(bK a [(.int .u8 0),(.int .u8 0),(.int .u8 0),(.int .u8 0),(.int .u8 0),(.int .u8 0),(.int .u8 0),(.int .u8 0)] 5)]|1=>[(bK a [(.int .u8 (IntKind.u8.wrap (((n:Int)).fdiv (2^56)))),(.int .u8 0),(.int .u8 0),(.int .u8 0),(.int .u8 0),(.int .u8 0),(.int .u8 0),(.int .u8 0)] 5)]|2=>[(bK a [(.int .u8 (IntKind.u8.wrap (((n:Int)).fdiv (2^56)))),(.int .u8 (IntKind.u8.wrap (((n:Int)).fdiv (2^48)))),(.int .u8 0),(.int .u8 0),(.int .u8 0),(.int .u8 0),(.int .u8 0),(.int .u8 0)] 5)]|3=>[(bK a [(.int .u8 (IntKind.u8.wrap (((n:Int)).fdiv (2^56)))),(.int .u8 (IntKind.u8.wrap (((n:Int)).fdiv (2^48)))),(.int .u8 (IntKind.u8.wrap (((n:Int)).fdiv (2^40)))),(.int .u8 0),(.int .u8 0),(.int .u8 0),(.int .u8 0),(.int .u8 0)] 5)]|4=>[(bK a [(.int .u8 (IntKind.u8.wrap (((n:Int)).fdiv (2^56)))),(.int .u8 (IntKind.u8.wrap (((n:Int)).fdiv (2^48)))),(.int .u8 (IntKind.u8.wrap (((n:Int)).fdiv (2^40)))),(.int .u8 (IntKind.u8.wrap (((n:Int)).fdiv (2^32)))),(.int .u8 0),(.int .u8 0),(.int .u8 0),(.int .u8 0)] 5)]|5=>[(bK a [(.int .u8 (IntKind.u8.wrap (((n:Int)).fdiv (2^56)))),(.int .u8 (IntKind.u8.wrap (((n:Int)).fdiv (2^48)))),(.int .u8 (IntKind.u8.wrap (((n:Int)).fdiv (2^40)))),(.int .u8 (IntKind.u8.wrap (((n:Int)).fdiv (2^32)))),(.int .u8 (IntKind.u8.wrap (((n:Int)).fdiv (2^24)))),(.int .u8 0),(.int .u8 0),(.int .u8 0)] 5)]|6=>[(bK a [(.int .u8 (IntKind.u8.wrap (((n:Int)).fdiv (2^56)))),(.int .u8 (IntKind.u8.wrap (((n:Int)).fdiv (2^48)))),(.int .u8 (IntKind.u8.wrap (((n:Int)).fdiv (2^40)))),(.int .u8 (IntKind.u8.wrap (((n:Int)).fdiv (2^32)))),(.int .u8 (IntKind.u8.wrap (((n:Int)).fdiv (2^24)))),(.int .u8 (IntKind.u8.wrap (((n:Int)).fdiv (2^16)))),(.int .u8 0),(.int .u8 0)] 5)]|7=>[(bK a [(.int .u8 (IntKind.u8.wrap (((n:Int)).fdiv (2^56)))),(.int .u8 (IntKind.u8.wrap (((n:Int)).fdiv (2^48)))),(.int .u8 (IntKind.u8.wrap (((n:Int)).fdiv (2^40)))),(.int .u8 (IntKind.u8.wrap (((n:Int)).fdiv (2^32)))),(.int .u8 (IntKind.u8.wrap (((n:Int)).fdiv (2^24)))),(.int .u8 (IntKind.u8.wrap (((n:Int)).fdiv (2^16)))),(.int .u8 (IntKind.u8.wrap (((n:Int)).fdiv (2^8)))),(.int .u8 0)] 5)]|_=>[(bK a [(.int .u8 (IntKind.u8.wrap (((n:Int)).fdiv (2^56)))),(.int .u8 (IntKind.u8.wrap (((n:Int)).fdiv (2^48)))),(.int .u8 (IntKind.u8.wrap (((n:Int)).fdiv (2^40)))),(.int .u8 (IntKind.u8.wrap (((n:Int)).fdiv (2^32)))),(.int .u8 (IntKind.u8.wrap (((n:Int)).fdiv (2^24)))),(.int .u8 (IntKind.u8.wrap (((n:Int)).fdiv (2^16)))),(.int .u8 (IntKind.u8.wrap (((n:Int)).fdiv (2^8)))),(.int .u8 (IntKind.u8.wrap (((n:Int)).fdiv (2^0))))] 5)]) (λx=>x<=8) (λx=>8-x) 0 oW ?_)))))))))))
 rintro x j;rcases(by omega:x=0\/x=1\/x=2\/x=3\/x=4\/x=5\/x=6\/x=7\/x=8)with rfl|rfl|rfl|rfl|rfl|rfl|rfl|rfl|rfl
 ·refine zQ 1 (zn (zs (dM (zk (zs (aB (zQ 2 (zn (zr (zq 11 (aX 0 a (zn (zr (zq 2 (zn ?_)))))))))))))));refine nx 1 oW (by show 8-1<8-0;omega)
 ·refine zQ 1 (zn (zs (dM (zk (zs (aB (zQ 2 (zn (zr (zq 11 (aX 0 a (zn (zr (zq 2 (zn ?_)))))))))))))));refine nx 2 oW (by show 8-2<8-1;omega)
 ·refine zQ 1 (zn (zs (dM (zk (zs (aB (zQ 2 (zn (zr (zq 11 (aX 0 a (zn (zr (zq 2 (zn ?_)))))))))))))));refine nx 3 oW (by show 8-3<8-2;omega)
 ·refine zQ 1 (zn (zs (dM (zk (zs (aB (zQ 2 (zn (zr (zq 11 (aX 0 a (zn (zr (zq 2 (zn ?_)))))))))))))));refine nx 4 oW (by show 8-4<8-3;omega)
 ·refine zQ 1 (zn (zs (dM (zk (zs (aB (zQ 2 (zn (zr (zq 11 (aX 0 a (zn (zr (zq 2 (zn ?_)))))))))))))));refine nx 5 oW (by show 8-5<8-4;omega)
 ·refine zQ 1 (zn (zs (dM (zk (zs (aB (zQ 2 (zn (zr (zq 11 (aX 0 a (zn (zr (zq 2 (zn ?_)))))))))))))));refine nx 6 oW (by show 8-6<8-5;omega)
 ·refine zQ 1 (zn (zs (dM (zk (zs (aB (zQ 2 (zn (zr (zq 11 (aX 0 a (zn (zr (zq 2 (zn ?_)))))))))))))));refine nx 7 oW (by show 8-7<8-6;omega)
 ·refine zQ 1 (zn (zs (dM (zk (zs (aB (zQ 2 (zn (zr (zq 11 (aX 0 a (zn (zr (zq 2 (zn ?_)))))))))))))));refine nx 8 oW (by show 8-8<8-7;omega)
 ·refine zQ 1 (zn (zs (cU (aI (zB [0,1,0] [(a,8)] (zn (aA (aO [4] [(St [UInt8.ofNat ((IntKind.u8.wrap (((n:Int)).fdiv (2^56))):Int).toNat,UInt8.ofNat ((IntKind.u8.wrap (((n:Int)).fdiv (2^48))):Int).toNat,UInt8.ofNat ((IntKind.u8.wrap (((n:Int)).fdiv (2^40))):Int).toNat,UInt8.ofNat ((IntKind.u8.wrap (((n:Int)).fdiv (2^32))):Int).toNat,UInt8.ofNat ((IntKind.u8.wrap (((n:Int)).fdiv (2^24))):Int).toNat,UInt8.ofNat ((IntKind.u8.wrap (((n:Int)).fdiv (2^16))):Int).toNat,UInt8.ofNat ((IntKind.u8.wrap (((n:Int)).fdiv (2^8))):Int).toNat,UInt8.ofNat ((IntKind.u8.wrap (((n:Int)).fdiv (2^0))):Int).toNat])] (λf d=>?_)))))))));refine⟨?_,d.below⟩;show Ending.returned (Value.string (B [shf n 56,shf n 48,shf n 40,shf n 32,shf n 24,shf n 16,shf n 8,shf n 0]))=_;rw[mG n 56 7 (by decide),mG n 48 6 (by decide),mG n 40 5 (by decide),mG n 32 4 (by decide),mG n 24 3 (by decide),mG n 16 2 (by decide),mG n 8 1 (by decide),mG n 0 0 (by decide)];rfl
theorem u8_in{x:Int}(a:0<=x)(d:x<256):IntKind.u8.wrap x=x:=by
 simp[IntKind.wrap,IntKind.bits,IntKind.signed];omega
theorem u16_in{x:Int}(a:0<=x)(d:x<65536):IntKind.u16.wrap x=x:=by
 simp[IntKind.wrap,IntKind.bits,IntKind.signed];omega
theorem u32_in{x:Int}(a:0<=x)(d:x<4294967296):IntKind.u32.wrap x=x:=by
 simp[IntKind.wrap,IntKind.bits,IntKind.signed];omega
theorem Jg:∀m:Fin 8,∀c:Fin 32,UInt8.ofNat (orI .u8 (IntKind.u8.wrap ((m.val:Int)*2^5)) (c.val:Int)).toNat=UInt8.ofNat (32*m.val+c.val):=by decide +kernel
theorem orb(m c:Nat)(hm:m<=7)(a:c<32):UInt8.ofNat (orI .u8 (IntKind.u8.wrap ((m:Int)*2^5)) (c:Int)).toNat=UInt8.ofNat (32*m+c):=Jg ⟨m,by omega⟩ ⟨c,a⟩
set_option maxRecDepth 100000 in
theorem jK(m n:Nat)(w:World)(hm:m<=7)(L:n<W64):CP 240 #[.int .i64 (m:Int),.int .u64 (n:Int)] w (Ret (.string (B (Itm.aF m n))) w):=by
 have k:decide ((m:Int)<0)=false:=P0 oW;let A:List Value:=[(.int .u8 (orI .u8 (IntKind.u8.wrap ((m:Int)*2^5)) 24))];let E:List Value:=[(.int .u8 (orI .u8 (IntKind.u8.wrap ((m:Int)*2^5)) 27))];let D:List Value:=[(.int .u8 (orI .u8 (IntKind.u8.wrap ((m:Int)*2^5)) 26))];let C:List Value:=[(.int .u8 (orI .u8 (IntKind.u8.wrap ((m:Int)*2^5)) 25))];have u:decide ((m:Int)>7)=false:=P0 oW;unfold W64 at L;have M:=Itm.fP n 1;have N:=Itm.fP n 2;have O:=Itm.fP n 4;have V:=Itm.fP n 8;refine dF 64 Tryz.func240 ?_;refine zQ 1 (zn (zs (zQ 3 (dZ 8 (.bool (decide ((m:Int)<0))) qF (M0 Value.bool k) ?_))));refine zq 3 (zn (dY (decide ((m:Int)>7)) u ?_));refine zk (zQ 2 (dH 13 ((m:Int)*2^5) (zq 2 (zn (zs (aB (zQ 3 (zn (aZ ((n:Int)<24) (λG f=>?_) (λG f=>?_))))))))))
 ·refine zQ 3 (dZ 20 (.int .u8 (IntKind.u8.wrap (n:Int))) (.int .u8 (n:Int)) (M0 (Value.int .u8) (u8_in oW oW)) ?_);refine zq 1 (aW (λF=>(cF [1,0] [(F,1)] (zn (aA (aO [4] [(St [UInt8.ofNat ((orI .u8 (IntKind.u8.wrap ((m:Int)*2^5)) (n:Int)):Int).toNat])] (λd a=>?_)))))));refine⟨?_,a.below⟩;show Ending.returned (Value.string (B [UInt8.ofNat ((orI .u8 (IntKind.u8.wrap ((m:Int)*2^5)) (n:Int)):Int).toNat]))=_;rw[Itm.aF,N1 oW,orb m n hm oW]
  try rfl
 ·refine zQ 3 (zn (aZ ((n:Int)<256) (λI g=>?_) (λI g=>?_)))
  ·refine zs ?_;refine gI 3 [0,0,1,1,0,1,1] [] [.blk (λr=>(Sl r 0 1 1)) (oK A 5),.val (St [UInt8.ofNat ((orI .u8 (IntKind.u8.wrap ((m:Int)*2^5)) 24):Int).toNat]),.val (.int .u8 (n:Int)),.val (St (Itm.dg n 1))] ⟨?_,?_,?_,?_,trivial⟩ ?_
   ·exact vN
   ·exact vB 2 1 29 (λr=>(Sl r 0 1 1)) A 5
   ·exact vE (.int .u8 (IntKind.u8.wrap (n:Int))) (M0 (Value.int .u8) (u8_in oW oW))
   ·exact vC 262 #[(.int .u8 (n:Int)),(I6 1)] (λW a=>RK n W oW)
   refine cB (St ([UInt8.ofNat ((orI .u8 (IntKind.u8.wrap ((m:Int)*2^5)) 24):Int).toNat]++(Itm.dg n 1))) (cE _ _ _ _ rfl [UInt8.ofNat ((orI .u8 (IntKind.u8.wrap ((m:Int)*2^5)) 24):Int).toNat] (Itm.dg n 1) kR kR oA) ?_;refine zq 1 (zn (aA (aO [4] [(St ([UInt8.ofNat ((orI .u8 (IntKind.u8.wrap ((m:Int)*2^5)) 24):Int).toNat]++(Itm.dg n 1)))] (λd a=>?_))));refine⟨?_,a.below⟩;show Ending.returned (Value.string (B ([UInt8.ofNat ((orI .u8 (IntKind.u8.wrap ((m:Int)*2^5)) 24):Int).toNat]++(Itm.dg n 1))))=_;rw[Itm.aF,M5 oW,N1 oW,(show UInt8.ofNat (orI .u8 (IntKind.u8.wrap ((m:Int)*2^5)) 24).toNat=UInt8.ofNat (32*m+24)from orb m 24 hm oW)]
   try rfl
  ·refine zQ 3 (zn (aZ ((n:Int)<65536) (λJ h=>?_) (λJ h=>?_)))
   ·refine zs ?_;refine gI 3 [0,0,1,1,0,1,1] [] [.blk (λr=>(Sl r 0 1 1)) (oK C 5),.val (St [UInt8.ofNat ((orI .u8 (IntKind.u8.wrap ((m:Int)*2^5)) 25):Int).toNat]),.val (.int .u16 (n:Int)),.val (St (Itm.dg n 2))] ⟨?_,?_,?_,?_,trivial⟩ ?_
    ·exact vN
    ·exact vB 2 1 40 (λr=>(Sl r 0 1 1)) C 5
    ·exact vE (.int .u16 (IntKind.u16.wrap (n:Int))) (M0 (Value.int .u16) (u16_in oW oW))
    ·exact vC 263 #[(.int .u16 (n:Int)),(I6 2)] (λW a=>RJ n W oW)
    refine cB (St ([UInt8.ofNat ((orI .u8 (IntKind.u8.wrap ((m:Int)*2^5)) 25):Int).toNat]++(Itm.dg n 2))) (cE _ _ _ _ rfl [UInt8.ofNat ((orI .u8 (IntKind.u8.wrap ((m:Int)*2^5)) 25):Int).toNat] (Itm.dg n 2) kR kR oA) ?_;refine zq 1 (zn (aA (aO [4] [(St ([UInt8.ofNat ((orI .u8 (IntKind.u8.wrap ((m:Int)*2^5)) 25):Int).toNat]++(Itm.dg n 2)))] (λd a=>?_))));refine⟨?_,a.below⟩;show Ending.returned (Value.string (B ([UInt8.ofNat ((orI .u8 (IntKind.u8.wrap ((m:Int)*2^5)) 25):Int).toNat]++(Itm.dg n 2))))=_;rw[Itm.aF,M5 oW,M5 oW,N1 oW,(show UInt8.ofNat (orI .u8 (IntKind.u8.wrap ((m:Int)*2^5)) 25).toNat=UInt8.ofNat (32*m+25)from orb m 25 hm oW)]
    try rfl
   ·refine zQ 3 (zn (aZ ((n:Int)<4294967296) (λK j=>?_) (λK j=>?_)))
    ·refine zs ?_;refine gI 3 [0,0,1,1,0,1,1] [] [.blk (λr=>(Sl r 0 1 1)) (oK D 5),.val (St [UInt8.ofNat ((orI .u8 (IntKind.u8.wrap ((m:Int)*2^5)) 26):Int).toNat]),.val (.int .u32 (n:Int)),.val (St (Itm.dg n 4))] ⟨?_,?_,?_,?_,trivial⟩ ?_
     ·exact vN
     ·exact vB 2 1 51 (λr=>(Sl r 0 1 1)) D 5
     ·exact vE (.int .u32 (IntKind.u32.wrap (n:Int))) (M0 (Value.int .u32) (u32_in oW oW))
     ·exact vC 264 #[(.int .u32 (n:Int)),(I6 4)] (λW a=>RI n W oW)
     refine cB (St ([UInt8.ofNat ((orI .u8 (IntKind.u8.wrap ((m:Int)*2^5)) 26):Int).toNat]++(Itm.dg n 4))) (cE _ _ _ _ rfl [UInt8.ofNat ((orI .u8 (IntKind.u8.wrap ((m:Int)*2^5)) 26):Int).toNat] (Itm.dg n 4) kR kR oA) ?_;refine zq 1 (zn (aA (aO [4] [(St ([UInt8.ofNat ((orI .u8 (IntKind.u8.wrap ((m:Int)*2^5)) 26):Int).toNat]++(Itm.dg n 4)))] (λd a=>?_))));refine⟨?_,a.below⟩;show Ending.returned (Value.string (B ([UInt8.ofNat ((orI .u8 (IntKind.u8.wrap ((m:Int)*2^5)) 26):Int).toNat]++(Itm.dg n 4))))=_;rw[Itm.aF,M5 oW,M5 oW,M5 oW,N1 oW,(show UInt8.ofNat (orI .u8 (IntKind.u8.wrap ((m:Int)*2^5)) 26).toNat=UInt8.ofNat (32*m+26)from orb m 26 hm oW)]
     try rfl
    ·refine zk (zs ?_);refine gI 3 [0,0,1,1,0,1] [] [.blk (λr=>(Sl r 0 1 1)) (oK E 5),.val (St [UInt8.ofNat ((orI .u8 (IntKind.u8.wrap ((m:Int)*2^5)) 27):Int).toNat]),.val (St (Itm.dg n 8))] ⟨?_,?_,?_,trivial⟩ ?_
     ·exact vN
     ·exact vB 2 1 59 (λr=>(Sl r 0 1 1)) E 5
     ·exact vC 265 #[(N6 n),(I6 8)] (λW a=>RH n W oW)
     refine cB (St ([UInt8.ofNat ((orI .u8 (IntKind.u8.wrap ((m:Int)*2^5)) 27):Int).toNat]++(Itm.dg n 8))) (cE _ _ _ _ rfl [UInt8.ofNat ((orI .u8 (IntKind.u8.wrap ((m:Int)*2^5)) 27):Int).toNat] (Itm.dg n 8) kR kR oA) ?_;refine zq 1 (zn (aA (aO [4] [(St ([UInt8.ofNat ((orI .u8 (IntKind.u8.wrap ((m:Int)*2^5)) 27):Int).toNat]++(Itm.dg n 8)))] (λd a=>?_))));refine⟨?_,a.below⟩;show Ending.returned (Value.string (B ([UInt8.ofNat ((orI .u8 (IntKind.u8.wrap ((m:Int)*2^5)) 27):Int).toNat]++(Itm.dg n 8))))=_;rw[Itm.aF,M5 oW,M5 oW,M5 oW,M5 oW,(show UInt8.ofNat (orI .u8 (IntKind.u8.wrap ((m:Int)*2^5)) 27).toNat=UInt8.ofNat (32*m+27)from orb m 27 hm oW)]
     try rfl
def KI(k:IntKind)(y x:Int):Int:=if jE k x 1==1 then Zm k (x.fdiv (2^1)) y else x.fdiv (2^1)
def qE(k:IntKind)(y:Int):Nat->Int->Int
 |0,x=>x
 |n+1,x=>qE k y n (KI k y x)
def MY(k:IntKind)(y x:Int)(c:UInt8):Int:=qE k y 8 (Zm k x (k.wrap (c.toNat:Int)))
def Zj(k:IntKind)(y x:Int)(l:List UInt8):Int:=l.foldl (MY k y) x
theorem sE{k:IntKind}{y x:Int}{i:Nat}(h:i<8):qE k y (8-i) x=qE k y (8-(i+1)) (KI k y x):=by
 rw[show 8-i=(8-(i+1))+1 by omega,qE]
theorem QA{k:IntKind}{y x:Int}{l:List UInt8}{i:Nat}{c:UInt8}(h:l[i]? =some c):Zj k y x (l.drop i)=Zj k y (MY k y x c) (l.drop (i+1)):=by
 obtain⟨a,rfl⟩:=L8.1 h;rw[R1 a];rfl
theorem MW(x y:Int)(l:List UInt8)(w:World)(V:l.length<=R47):CP 275 #[.int .u16 x,.int .u16 y,.string (B l)] w (Ret (.int .u16 (Zj .u16 y x l)) w):=by
 unfold R47 at V;obtain⟨j,G⟩:∃j,j=x:=⟨_,rfl⟩;rw[<-G];refine dF 34 Tryz.func275 ?_;refine zQ 1 (zn (zs (zQ 1 ?_)));refine LJ 9 181 5 (.tmp 9) rfl l kR kR kR kR kR kR (λg k I O D M=>?_);have F:=UJ.of D (by first|assumption|omega);refine zq 2 (zn (aB (eF (α:=Nat×Int) (λx=>[0,1,6,10,11,12].zip [(.int .u16 x.2),(.int .u16 y),(.int .u16 0),(Sl g 0 l.length k),(L6 l.length),(L6 x.1)]) (λx=>I) (λx=>[]) (λx=>x.1<=l.length/\Zj .u16 y x.2 (l.drop x.1)=Zj .u16 y j l) (λx=>l.length-x.1) (0,j) ?_ ?_)))
 ·exact⟨by simp,rfl⟩
 intro x X;obtain⟨Y,d⟩:=X;refine zQ 1 (zn (zs (aZ ((x.1:Int)<(l.length:Int)) (λK r=>?_) (λK r=>?_))))
 ·refine zk (zs (aB (zs (zr ?_))));obtain⟨a,h⟩:∃y,(l)[x.1]? =some y:=⟨(l)[x.1]'oW,K8 _⟩;obtain⟨b1,f1,J,E⟩:=F.one h;cases J;refine cB (Pt g (0+x.1)) (eJ _ 5 _ _ rfl g 0 l.length k x.1 .i64 kR kR (by first|assumption|omega) kR kR) ?_;refine zV g (0+x.1) (.int .u8 (a.toNat:Int)) E 5 (.tmp 14) _ Tryz.underlying5 rfl ?_;refine zq 1 (zn (zQ 5 (zn (zQ 1 (zn (aB (eF (α:=Nat×Int) (λz=>[0,1,6,8,10,11,12,13,14,15,16,17,18,19,20].zip [(.int .u16 z.2),(.int .u16 y),(.int .u16 0),(.int .u8 (a.toNat:Int)),(Sl g 0 l.length k),(L6 l.length),(L6 x.1),(.bool (decide ((x.1:Int)<(l.length:Int)))),(Pt g (0+x.1)),(.int .u8 (a.toNat:Int)),(.int .u16 x.2),(.int .u8 (a.toNat:Int)),(.int .u16 (IntKind.u16.wrap (a.toNat:Int))),(.int .u16 (Zm .u16 x.2 (IntKind.u16.wrap (a.toNat:Int)))),(L6 z.1)]) (λz=>I) (λz=>[]) (λz=>z.1<=8/\qE .u16 y (8-z.1) z.2=qE .u16 y 8 (Zm .u16 x.2 (IntKind.u16.wrap (a.toNat:Int)))) (λz=>8-z.1) (0,(Zm .u16 x.2 (IntKind.u16.wrap (a.toNat:Int)))) ?_ ?_)))))))
  ·exact⟨by simp,rfl⟩
  intro z Z;obtain⟨a1,f⟩:=Z;refine zQ 1 (zn (zs (aZ ((z.1:Int)<8) (λL u=>?_) (λL u=>?_))))
  ·refine zk (zs (aB (zQ 3 (zn (fC (jE .u16 z.2 1) 1 (λA C=>?_) (λA C=>?_))))))
   ·refine zr (zq 5 (zn (zr (zq 1 (dH 31 ((z.1:Int)+1) (zq 1 (zn ?_)))))));refine nx (z.1+1,(Zm .u16 ((z.2).fdiv (2^1)) y)) ?_ ?_
    ·exact⟨by show z.1+1<=8;omega,by rw[<-f,sE (i:=z.1) (x:=z.2) oW,KI];simp only[A,if_true,if_false,N9]⟩
    ·show 8-(z.1+1)<8-z.1;omega
   ·refine zr (zq 3 (zn (zr (zq 1 (dH 31 ((z.1:Int)+1) (zq 1 (zn ?_)))))));refine nx (z.1+1,((z.2).fdiv (2^1))) ?_ ?_
    ·exact⟨by show z.1+1<=8;omega,by rw[<-f,sE (i:=z.1) (x:=z.2) oW,KI];simp only[A,if_true,if_false,N9]⟩
    ·show 8-(z.1+1)<8-z.1;omega
  ·refine aI (zr (zq 1 (dH 32 ((x.1:Int)+1) (zq 1 (zn ?_)))));refine nx (x.1+1,z.2) ?_ ?_
   ·exact⟨by show x.1+1<=_;omega,by rw[<-d,QA h,MY,<-f,show 8-z.1=0 by omega];rfl⟩
   ·show l.length-(x.1+1)<l.length-x.1;omega
 ·refine aI (zQ 2 (zn (aA (aO [6] [(.int .u16 x.2)] (λW' N=>?_)))));exact⟨by rw[show x.1=l.length by omega,ag]at d;rw[<-d];rfl,N.below⟩
theorem MV(x y:Int)(l:List UInt8)(w:World)(V:l.length<=R47):CP 276 #[.int .u32 x,.int .u32 y,.string (B l)] w (Ret (.int .u32 (Zj .u32 y x l)) w):=by
 unfold R47 at V;obtain⟨j,G⟩:∃j,j=x:=⟨_,rfl⟩;rw[<-G];refine dF 34 Tryz.func276 ?_;refine zQ 1 (zn (zs (zQ 1 ?_)));refine LJ 9 181 5 (.tmp 9) rfl l kR kR kR kR kR kR (λg k I O D M=>?_);have F:=UJ.of D (by first|assumption|omega);refine zq 2 (zn (aB (eF (α:=Nat×Int) (λx=>[0,1,6,10,11,12].zip [(.int .u32 x.2),(.int .u32 y),(.int .u32 0),(Sl g 0 l.length k),(L6 l.length),(L6 x.1)]) (λx=>I) (λx=>[]) (λx=>x.1<=l.length/\Zj .u32 y x.2 (l.drop x.1)=Zj .u32 y j l) (λx=>l.length-x.1) (0,j) ?_ ?_)))
 ·exact⟨by simp,rfl⟩
 intro x X;obtain⟨Y,d⟩:=X;refine zQ 1 (zn (zs (aZ ((x.1:Int)<(l.length:Int)) (λK r=>?_) (λK r=>?_))))
 ·refine zk (zs (aB (zs (zr ?_))));obtain⟨a,h⟩:∃y,(l)[x.1]? =some y:=⟨(l)[x.1]'oW,K8 _⟩;obtain⟨b1,f1,J,E⟩:=F.one h;cases J;refine cB (Pt g (0+x.1)) (eJ _ 5 _ _ rfl g 0 l.length k x.1 .i64 kR kR (by first|assumption|omega) kR kR) ?_;refine zV g (0+x.1) (.int .u8 (a.toNat:Int)) E 5 (.tmp 14) _ Tryz.underlying5 rfl ?_;refine zq 1 (zn (zQ 5 (zn (zQ 1 (zn (aB (eF (α:=Nat×Int) (λz=>[0,1,6,8,10,11,12,13,14,15,16,17,18,19,20].zip [(.int .u32 z.2),(.int .u32 y),(.int .u32 0),(.int .u8 (a.toNat:Int)),(Sl g 0 l.length k),(L6 l.length),(L6 x.1),(.bool (decide ((x.1:Int)<(l.length:Int)))),(Pt g (0+x.1)),(.int .u8 (a.toNat:Int)),(.int .u32 x.2),(.int .u8 (a.toNat:Int)),(.int .u32 (IntKind.u32.wrap (a.toNat:Int))),(.int .u32 (Zm .u32 x.2 (IntKind.u32.wrap (a.toNat:Int)))),(L6 z.1)]) (λz=>I) (λz=>[]) (λz=>z.1<=8/\qE .u32 y (8-z.1) z.2=qE .u32 y 8 (Zm .u32 x.2 (IntKind.u32.wrap (a.toNat:Int)))) (λz=>8-z.1) (0,(Zm .u32 x.2 (IntKind.u32.wrap (a.toNat:Int)))) ?_ ?_)))))))
  ·exact⟨by simp,rfl⟩
  intro z Z;obtain⟨a1,f⟩:=Z;refine zQ 1 (zn (zs (aZ ((z.1:Int)<8) (λL u=>?_) (λL u=>?_))))
  ·refine zk (zs (aB (zQ 3 (zn (fC (jE .u32 z.2 1) 1 (λA C=>?_) (λA C=>?_))))))
   ·refine zr (zq 5 (zn (zr (zq 1 (dH 31 ((z.1:Int)+1) (zq 1 (zn ?_)))))));refine nx (z.1+1,(Zm .u32 ((z.2).fdiv (2^1)) y)) ?_ ?_
    ·exact⟨by show z.1+1<=8;omega,by rw[<-f,sE (i:=z.1) (x:=z.2) oW,KI];simp only[A,if_true,if_false,N9]⟩
    ·show 8-(z.1+1)<8-z.1;omega
   ·refine zr (zq 3 (zn (zr (zq 1 (dH 31 ((z.1:Int)+1) (zq 1 (zn ?_)))))));refine nx (z.1+1,((z.2).fdiv (2^1))) ?_ ?_
    ·exact⟨by show z.1+1<=8;omega,by rw[<-f,sE (i:=z.1) (x:=z.2) oW,KI];simp only[A,if_true,if_false,N9]⟩
    ·show 8-(z.1+1)<8-z.1;omega
  ·refine aI (zr (zq 1 (dH 32 ((x.1:Int)+1) (zq 1 (zn ?_)))));refine nx (x.1+1,z.2) ?_ ?_
   ·exact⟨by show x.1+1<=_;omega,by rw[<-d,QA h,MY,<-f,show 8-z.1=0 by omega];rfl⟩
   ·show l.length-(x.1+1)<l.length-x.1;omega
 ·refine aI (zQ 2 (zn (aA (aO [6] [(.int .u32 x.2)] (λW' N=>?_)))));exact⟨by rw[show x.1=l.length by omega,ag]at d;rw[<-d];rfl,N.below⟩
def Ho(l:List UInt8):Int:=Bs .u16 (Zj .u16 33800 65535 l)
def MZ(l:List UInt8):Int:=Bs .u32 (Zj .u32 2197175160 4294967295 l)
def lo8(x:Int):UInt8:=UInt8.ofNat (IntKind.u8.wrap x).toNat
def lR(k:Int)(l:List UInt8):List UInt8:=if k==1 then[lo8 ((Ho l).fdiv (2^8)),lo8 (Ho l)]else if k==2 then[lo8 ((MZ l).fdiv (2^24)),lo8 ((MZ l).fdiv (2^16)),lo8 ((MZ l).fdiv (2^8)),lo8 (MZ l)]else[]
theorem Ab{k:Int}(l:List UInt8)(a:0<=k)(d:k<=2):((lR k l).length:Int)=2*k:=by
 unfold lR;rcases(by omega:k=0\/k=1\/k=2)with rfl|rfl|rfl<;>rfl
theorem Le(l:List UInt8)(w:World)(a:l.length<=R47):CP 268 #[.string (B l)] w (Ret (.int .u16 (Ho l)) w):=by
 refine dF 6 Tryz.func268 ?_;refine zQ 1 (zn (zQ 1 (cY 275 #[(.int .u16 65535),(.int .u16 33800),(St l)] (.int .u16 (Zj .u16 33800 65535 l)) (λW d=>MW _ _ l W a) ?_)));refine zq 2 (zn (aA (gC 2)))
theorem Nk(l:List UInt8)(w:World)(a:l.length<=R47):CP 269 #[.string (B l)] w (Ret (.int .u32 (MZ l)) w):=by
 refine dF 6 Tryz.func269 ?_;refine zQ 1 (zn (zQ 1 (cY 276 #[(.int .u32 4294967295),(.int .u32 2197175160),(St l)] (.int .u32 (Zj .u32 2197175160 4294967295 l)) (λW d=>MV _ _ l W a) ?_)));refine zq 2 (zn (aA (gC 2)))
theorem QD(k:Int)(w:World)(f:0<=k)(g:k<=2):CP 228 #[.int .i64 k] w (Ret (.int .i64 (2*k)) w):=by
 have a:decide (k<0)=false:=P0 oW;have d:decide (k>2)=false:=P0 oW;refine dF 11 Tryz.func228 ?_;refine zQ 1 (zn (zs (zQ 3 (dZ 5 (.bool (decide (k<0))) qF (M0 Value.bool a) ?_))));refine zq 3 (zn (dY (decide (k>2)) d ?_));refine zk (zQ 2 (dH 10 (2*k) (zq 1 (zn (aA (gC 2))))))
theorem WR(k:Int)(l:List UInt8)(w:World)(h:l.length<=R47):CP 253 #[.int .i64 k,.string (B l)] w (Ret (.string (B (lR k l))) w):=by
 refine dF 36 Tryz.func253 ?_;refine zQ 1 (zn (zs (zQ 1 (zn (aB (zQ 2 (zn (gK (k==1) (λd=>?_) (λd=>?_)))))))))
 ·refine zQ 1 (dN (λW a=>Le l W h) (zq 1 (zn (zQ 5 (aW (λj=>(cF [1,0] [(j,2)] (zn (aA (aO [4] [(St [UInt8.ofNat ((IntKind.u8.wrap (((Ho l)).fdiv (2^8))):Int).toNat,UInt8.ofNat ((IntKind.u8.wrap (Ho l)):Int).toNat])] (λg a=>?_)))))))))));exact⟨by simp only[dD,lR,lo8,d,bs,bQ,reduceIte],a.below⟩
 ·refine zQ 2 (zn (gK (k==2) (λf=>?_) (λf=>?_)))
  ·refine zQ 1 (dN (λW a=>Nk l W h) (zq 1 (zn (zQ 11 (aW (λr=>(cF [1,0] [(r,4)] (zn (aA (aO [4] [(St [UInt8.ofNat ((IntKind.u8.wrap (((MZ l)).fdiv (2^24))):Int).toNat,UInt8.ofNat ((IntKind.u8.wrap (((MZ l)).fdiv (2^16))):Int).toNat,UInt8.ofNat ((IntKind.u8.wrap (((MZ l)).fdiv (2^8))):Int).toNat,UInt8.ofNat ((IntKind.u8.wrap (MZ l)):Int).toNat])] (λg a=>?_)))))))))));exact⟨by simp only[dD,lR,lo8,d,f,bs,bQ,reduceIte],a.below⟩
  ·refine zk (zQ 1 (zn (aA (aO [4] [(St [])] (λg a=>?_)))));exact⟨by simp only[dD,lR,lo8,d,f,bs,bQ,reduceIte],a.below⟩
theorem TY(w:World):CP 148 #[.int .i64 4] w (Ret (.bool true) w):=by
 refine dF 13 Tryz.func148 ?_;refine zQ 1 (zn (zQ 11 (zn (aA (gC 2)))))
theorem CD(w:World):CP 98 #[.int .i64 4] w (Ret (.string (B [159])) w):=by
 refine dF 12 Tryz.func98 ?_;refine zQ 1 (zn (zs (zQ 1 (dN (λW d=>TY W) (zq 1 (zn (cU (zk (zQ 4 (aW (λa=>(cF [1,0] [(a,1)] (zn (aA (gC 2)))))))))))))))
theorem TX(w:World):CP 148 #[.int .i64 7] w (Ret (.bool true) w):=by
 refine dF 13 Tryz.func148 ?_;refine zQ 1 (zn (zQ 11 (zn (aA (gC 2)))))
theorem CC(w:World):CP 98 #[.int .i64 7] w (Ret (.string (B [255])) w):=by
 refine dF 12 Tryz.func98 ?_;refine zQ 1 (zn (zs (zQ 1 (dN (λW d=>TX W) (zq 1 (zn (cU (zk (zQ 4 (aW (λa=>(cF [1,0] [(a,1)] (zn (aA (gC 2)))))))))))))))
theorem KK(l:List UInt8)(w:World)(a:l.length<=R47):CP 241 #[.string (B l)] w (Ret (.string (B (Itm.aF 2 l.length++l))) w):=by
 have f:=Itm.aE 2 l.length;unfold R47 at a;refine dF 9 Tryz.func241 ?_;refine zQ 1 (zn (zQ 3 (dZ 5 (U6 (IntKind.u64.wrap (((l).length:Nat):Int))) (N6 ((l).length:Nat)) (M0 (Value.int .u64) (u64_in oW oW)) ?_)));refine dN (λW d=>jK 2 l.length W oW (by unfold W64;omega)) (zq 1 (cB (St ((Itm.aF 2 l.length)++l)) (cE _ _ _ _ rfl (Itm.aF 2 l.length) l kR kR oA) ?_));refine zq 1 (zn (aA (gC 2)))
theorem Ty(l:List UInt8)(w:World)(a:l.length<=R47):CP 242 #[.string (B l)] w (Ret (.string (B (Itm.aF 3 l.length++l))) w):=by
 have f:=Itm.aE 3 l.length;unfold R47 at a;refine dF 9 Tryz.func242 ?_;refine zQ 1 (zn (zQ 3 (dZ 5 (U6 (IntKind.u64.wrap (((l).length:Nat):Int))) (N6 ((l).length:Nat)) (M0 (Value.int .u64) (u64_in oW oW)) ?_)));refine dN (λW d=>jK 3 l.length W oW (by unfold W64;omega)) (zq 1 (cB (St ((Itm.aF 3 l.length)++l)) (cE _ _ _ _ rfl (Itm.aF 3 l.length) l kR kR oA) ?_));refine zq 1 (zn (aA (gC 2)))
theorem dV(n:Int)(w:World):CP 131 #[.int .u64 n] w (Ret (.agg #[.int .i64 0,.int .u64 n,.string (B []),.slice none 0 0,.bool false]) w):=by
 refine dF 5 Tryz.func131 ?_;refine zs (zr (aW (λa=>(zn (zQ 2 (aX 0 a (zn (aA (dW [1] [(a,5)] [(.agg #[(I6 0),(U6 n),(St []),S0,qF])] (λf d=>?_))))))))));exact⟨rfl,d.below⟩
theorem oE(l:List UInt8)(w:World):CP 133 #[.string (B l)] w (Ret (.agg #[.int .i64 2,.int .u64 0,.string (B l),.slice none 0 0,.bool false]) w):=by
 refine dF 5 Tryz.func133 ?_;refine zs (zr (aW (λa=>(zn (zQ 2 (aX 0 a (zn (aA (dW [1] [(a,5)] [(.agg #[(I6 2),(U6 0),(St l),S0,qF])] (λf d=>?_))))))))));exact⟨rfl,d.below⟩
theorem eD(a:Option Addr)(n c:Nat)(w:World):CP 209 #[.slice a n c] w (Ret (.agg #[.int .i64 4,.int .u64 0,.string (B []),.slice a n c,.bool false]) w):=by
 refine dF 5 Tryz.func209 ?_;refine zs (zr (aW (λd=>(zn (zQ 2 (aX 0 d (zn (aA (dW [1] [(d,5)] [(.agg #[(I6 4),(U6 0),(St []),(.slice a n c),qF])] (λg f=>?_))))))))));exact⟨rfl,f.below⟩
open Go.Proofs.YtkoamlfiijcecaaGreatDoor.Itm (Tr cD dJ)
inductive TV (U:View):Tr->List Value->Prop
 | mk (k : Int) (n : Nat) (s : List UInt8) (l : List Tr) (o : Bool) (a : Option Addr) (c : Nat) (C : Nat -> List Value) (hn : n < W64) (hs : s.length <= R47) (hl : l.length <= R47)
   (hat:∀i,i<l.length->∃b f,a=some ⟨b,f,none⟩/\U.range b (f+i*5) (C i))
   (hel:∀i t,l[i]? =some t->TV U t (C i)):TV U (.mk k n s l o) [.int .i64 k,.int .u64 n,.string (B s),.slice a l.length c,.bool o]
structure fR (U : View) (a : Option Addr) (l : List Tr) : Prop where
 at_:∀i x,l[i]? =some x->∃b f cs,a=some ⟨b,f,none⟩/\U.range b (f+i*5) cs/\TV U x cs
 len:l.length<=R47
theorem TV.le{U V:View}(h:View.le U V){t:Tr}{cs:List Value}(j:TV U t cs):TV V t cs:=by
 induction j with
 |mk k n s l o a c C hn hs hl hat hel ih=>
  refine .mk k n s l o a c C hn hs hl (λi d=>?_) ih;obtain⟨b,f,e,g⟩:=hat i d;exact⟨b,f,e,View.range_le h g⟩
theorem fR.le{U V:View}(h:View.le U V){a:Option Addr}{l:List Tr}(d:fR U a l):fR V a l:=
 ⟨λi x k=>by obtain⟨b,f,cs,e,g,j⟩:=d.at_ i x k;exact⟨b,f,cs,e,View.range_le h g,j.le h⟩,d.len⟩
theorem TV.form{U:View}{t:Tr}{cs:List Value}(h:TV U t cs):∃a c,cs=[.int .i64 t.k,.int .u64 t.n,.string (B t.s),.slice a t.l.length c,.bool t.o]/\fR U a t.l/\t.n<W64/\t.s.length<=R47/\t.l.length<=R47:=by
 cases h with
 |mk k n s l o a c C hn hs hl hat hel=>
  refine⟨a,c,rfl,⟨λi x d=>?_,hl⟩,hn,hs,hl⟩;obtain⟨b,f,e,g⟩:=hat i (L8.1 d).1;exact⟨b,f,C i,e,g,hel i x d⟩
theorem TV.of{U:View}{t:Tr}{a:Option Addr}{c:Nat}(h:fR U a t.l)(A:t.n<W64)(hs:t.s.length<=R47):TV U t [.int .i64 t.k,.int .u64 t.n,.string (B t.s),.slice a t.l.length c,.bool t.o]:=by
 obtain⟨k,n,s,l,o⟩:=t;have g:∀i,i<l.length->∃cs:List Value,(∃b f,a=some ⟨b,f,none⟩/\U.range b (f+i*5) cs)/\∀t,l[i]? =some t->TV U t cs:=by
  intro i j;obtain⟨b,f,cs,e,D,r⟩:=h.at_ i l[i] (K8 j);refine⟨cs,⟨b,f,e,D⟩,λt d=>?_⟩;change l[i]? =some t at d;rw[K8 j]at d;rw[<-N5 d];exact r
 obtain⟨C,u⟩:=Deep.choose_lt (α:=List Value) g;exact .mk k n s l o a c C A hs h.len (λi j=>(u i j).1) (λi t r=>(u i (L8.1 r).1).2 t r)
theorem TV.list{U:View}{a:Option Addr}{l:List Tr}(c:Nat)(h:fR U a l):TV U (dJ l) [.int .i64 4,.int .u64 0,.string (B []),.slice a l.length c,.bool false]:=TV.of (t:=dJ l) (c:=c) h (show(0:Nat)<W64 by decide) (show(0:Nat)<=R47 by decide)
theorem fR.nil(U:View):fR U none []:=⟨λi x h=>by simp at h,by decide⟩
theorem TV.num(U:View)(n:Nat)(a:n<W64):TV U (cD n) [.int .i64 0,.int .u64 n,.string (B []),.slice none 0 0,.bool false]:=TV.of (t:=cD n) (c:=0) (fR.nil U) a (show(0:Nat)<=R47 by decide)
def eN(l:List UInt8):Tr:=.mk 2 0 l [] false
def XI(l:List UInt8):Tr:=.mk 3 0 l [] false
theorem TV.str(U:View)(l:List UInt8)(a:l.length<=R47):TV U (eN l) [.int .i64 2,.int .u64 0,.string (B l),.slice none 0 0,.bool false]:=TV.of (t:=eN l) (c:=0) (fR.nil U) (by decide:(0:Nat)<W64) a
theorem TV.txt(U:View)(l:List UInt8)(a:l.length<=R47):TV U (XI l) [.int .i64 3,.int .u64 0,.string (B l),.slice none 0 0,.bool false]:=TV.of (t:=XI l) (c:=0) (fR.nil U) (by decide:(0:Nat)<W64) a
theorem TV.len5{U:View}{t:Tr}{cs:List Value}(h:TV U t cs):cs.length=5:=by obtain⟨a,c,rfl,_⟩:=h.form;rfl
theorem gF{U:View}{b f:Nat}{d ys:List Value}(h:U.range b f (d++ys)):U.range b f d/\U.range b (f+d.length) ys:=
 ⟨λj v a=>h j v (by rw[Q1 (L8.1 a).1];exact a),λj v a=>by
  have:=h (d.length+j) v (by rw[P8 oW,Z3];exact a);rw[X1];exact this⟩
def iH(V:View):List (Tr×List Value)->Prop
 | []=>True
 |p::r=>TV V p.1 p.2/\iH V r
theorem iH.get{V:View}:∀{L:List (Tr×List Value)},iH V L->∀{b f:Nat},V.range b f (L.flatMap Prod.snd)->∀i x,(L.map Prod.fst)[i]? =some x->∃cs,V.range b (f+i*5) cs/\TV V x cs
 | [],_,b,f,_,i,x,h=>by simp at h
 |p::r,⟨d,k⟩,b,f,g,i,x,h=>by
  rw[P9]at g;obtain⟨u,A⟩:=gF g;cases i with
  |zero=>
   simp only[R2,P5,L0]at h;subst h;exact⟨p.2,by simpa using u,d⟩
  |succ i=>
   simp only[R2,Q7]at h;obtain⟨cs,a,j⟩:=iH.get k A i x h;refine⟨cs,?_,j⟩;rw[d.len5]at a;rw[show f+(i+1)*5=f+5+i*5 by omega];exact a
theorem fR.lit{V:View}{b f:Nat}(L:List (Tr×List Value))(h:V.range b f (L.flatMap Prod.snd))(j:iH V L)(g:(L.map Prod.fst).length<=R47):fR V (some ⟨b,f,none⟩) (L.map Prod.fst):=
 ⟨λi x k=>by obtain⟨cs,a,d⟩:=j.get h i x k;exact⟨b,f,cs,rfl,a,d⟩,g⟩
theorem TV.toTAt{U:View}{t:Tr}{cs:List Value}(h:TV U t cs){w:World}(d:See U w):Itm.TAt w t cs:=by
 induction h with
 |mk k n s l o a c C hn hs hl hat hel ih=>
  refine .mk k n s l o a c C hn hs hl (λi g=>?_) ih;obtain⟨b,f,e,j⟩:=hat i g;refine⟨b,f,e,?_,View.range_of j d⟩;have r:=(hel i l[i] (K8 g)).len5;have:=j 0 ((C i)[0]'oW) (K8 oW);exact oR (d _ _ this)
theorem TV.cast{U:View}{t a:Tr}{cs:List Value}(h:TV U t cs)(e:t=a):TV U a cs:=e▸h
def Ei.tree(e:Ei):Itm.Tr:=if e.s==2 then Itm.dJ [Itm.cD 2,Itm.dJ [Itm.cD e.n,Itm.cD e.v]]else if e.l==[110,111,110,101]then Itm.dJ [Itm.cD 1,Itm.cD 0]else Itm.dJ [Itm.cD 1,XI e.l]
def Su(t:Itm.Tr)(n:Int):Value->View->Prop:=λv V=>∃cs,v=.tuple #[.agg cs.toArray,.int .i64 n]/\TV V t cs
theorem pH(e:Ei)(w:World){U:View}(hU:See U w)(O:e.ok)(X:aN e=true):CP 199 #[e.V] w (fV w U (Su e.tree 0)):=by
 have hn:=O.n;have hv:=O.v;have hl:=O.l;refine dC 38 Tryz.func199 hU ?_;refine zs (zr (aW (λD=>(aW (λE=>(zq 1 (zn (zs (aB (zB [1] [(D,4)] (dN (λW a=>jA e W O.l) (zq 2 (zn (dY (!(aN e)) (by rw[X];rfl) ?_))))))))))))));refine zB [0,1,0,0] [(D,1)] (zn (fC e.s 2 (λN a1=>?_) (λN a1=>?_)))
 ·refine zs ?_;refine jX 4 [1,0,3,1,0,3] [(D,1),(D,1)] [.val (.agg #[(I6 0),(U6 2),(St []),S0,qF]),.val (iV e.n)] (by simp only[O4];exact⟨trivial,trivial,λ_ h=>by cases h⟩) ⟨?_,?_,trivial⟩ ?_
  ·refine wV 131 (λu=>#[(U6 2)]) λu V hV M W hW=>?_
   exact dV _ W
  ·refine wV 131 (λu=>#[(N6 e.n)]) λu V hV M W hW=>?_
   exact dV _ W
  intro u2 V2 B c1;have k3:=(TV.num _ 2 (by first|assumption|decide|(unfold W64;omega))).le B;have k4:=(TV.num _ e.n (by first|assumption|decide|(unfold W64;omega))).le B;refine cY 131 #[(N6 e.v)] (iV e.v) (λW a=>dV _ W) ?_;refine gR [(I6 0),(N6 e.n),(St []),S0,qF,(I6 0),(N6 e.v),(St []),S0,qF] 136 (λr=>(Sl r 0 2 2)) kR kR kR (λF V5 j a7=>?_);have k6:=k3.le j;have k7:=k4.le j;have k8:=(TV.num _ e.v (by first|assumption|decide|(unfold W64;omega))).le j;have b2:fR V5 (some ⟨F,0,none⟩) [(Itm.cD e.n),(Itm.cD e.v)]:=fR.lit [((Itm.cD e.n),(iN e.n)),((Itm.cD e.v),(iN e.v))] a7 ⟨k7,k8,trivial⟩ (show 2<=R47 by decide);refine cY 209 #[(Sl F 0 2 2)] (.agg #[(I6 4),(U6 0),(St []),(Sl F 0 2 2),qF]) (λW a=>eD _ _ _ W) ?_;refine gR [(I6 0),(U6 2),(St []),S0,qF,(I6 4),(U6 0),(St []),(Sl F 0 2 2),qF] 136 (λr=>(Sl r 0 2 2)) kR kR kR (λG V9 C a8=>?_);have b5:=k6.le C;have b6:=(TV.list 2 b2).le C;have b3:fR V9 (some ⟨G,0,none⟩) [(Itm.cD 2),(Itm.dJ [(Itm.cD e.n),(Itm.cD e.v)])]:=fR.lit [((Itm.cD 2),[(I6 0),(U6 2),(St []),S0,qF]),((Itm.dJ [(Itm.cD e.n),(Itm.cD e.v)]),[(I6 4),(U6 0),(St []),(Sl F 0 2 2),qF])] a8 ⟨b5,b6,trivial⟩ (show 2<=R47 by decide);refine cY 209 #[(Sl G 0 2 2)] (.agg #[(I6 4),(U6 0),(St []),(Sl G 0 2 2),qF]) (λW a=>eD _ _ _ W) ?_;refine aX 1 E (zq 1 (zn (aA (dW [2,0] [(E,5)] [(.agg #[(I6 4),(U6 0),(St []),(Sl G 0 2 2),qF]),(I6 0)] (λW' a=>?_)))));exact aJ a (View.le_trans (View.le_trans B j) C) ⟨[(I6 4),(U6 0),(St []),(Sl G 0 2 2),qF],rfl,((TV.list 2 b3)).cast (by simp only[Ei.tree,N,X,bs,bQ,reduceIte])⟩
 ·refine zB [0,1] [(D,1)] (cB (.bool (e.l==[110,111,110,101])) (gZ _ _ _ _ rfl e.l [110,111,110,101] kR kR) ?_);refine zq 1 (zn (fC e.l [110,111,110,101] (λh1 a6=>?_) (λh1 a6=>?_)))
  ·refine zs (zr (cY 131 #[(U6 1)] (.agg #[(I6 0),(U6 1),(St []),S0,qF]) (λW a=>dV _ W) ?_));refine cY 131 #[(U6 0)] (.agg #[(I6 0),(U6 0),(St []),S0,qF]) (λW a=>dV _ W) ?_;refine gR [(I6 0),(U6 1),(St []),S0,qF,(I6 0),(U6 0),(St []),S0,qF] 136 (λr=>(Sl r 0 2 2)) kR kR kR (λd Y g I=>?_);have b7:=(TV.num _ 1 (by first|assumption|decide|(unfold W64;omega))).le g;have b8:=(TV.num _ 0 (by first|assumption|decide|(unfold W64;omega))).le g;have K:fR Y (some ⟨d,0,none⟩) [(Itm.cD 1),(Itm.cD 0)]:=fR.lit [((Itm.cD 1),[(I6 0),(U6 1),(St []),S0,qF]),((Itm.cD 0),[(I6 0),(U6 0),(St []),S0,qF])] I ⟨b7,b8,trivial⟩ (show 2<=R47 by decide);refine cY 209 #[(Sl d 0 2 2)] (.agg #[(I6 4),(U6 0),(St []),(Sl d 0 2 2),qF]) (λW a=>eD _ _ _ W) ?_;refine aX 1 E (zq 1 (zn (aA (dW [2,0] [(E,5)] [(.agg #[(I6 4),(U6 0),(St []),(Sl d 0 2 2),qF]),(I6 0)] (λW' a=>?_)))));exact aJ a g ⟨[(I6 4),(U6 0),(St []),(Sl d 0 2 2),qF],rfl,((TV.list 2 K)).cast (by simp only[Ei.tree,N,h1,X,bs,bQ,reduceIte])⟩
  ·refine zk (zs ?_);refine jX 3 [1,0,3,0] [(D,1)] [.val (.agg #[(I6 0),(U6 1),(St []),S0,qF])] (by simp only[O4];exact⟨trivial,λ_ h=>by cases h⟩) ⟨?_,trivial⟩ ?_
   ·refine wV 131 (λu=>#[(U6 1)]) λu V hV M W hW=>?_
    exact dV _ W
   intro c4 c2 k b4;have b9:=(TV.num _ 1 (by first|assumption|decide|(unfold W64;omega))).le k;refine gR [(I6 0),(U6 1),(St []),S0,qF,(I6 3),(U6 0),(St e.l),S0,qF] 136 (λr=>(Sl r 0 2 2)) kR kR kR (λf Z A J=>?_);have c0:=b9.le A;have L:fR Z (some ⟨f,0,none⟩) [(Itm.cD 1),(XI e.l)]:=fR.lit [((Itm.cD 1),[(I6 0),(U6 1),(St []),S0,qF]),((XI e.l),[(I6 3),(U6 0),(St e.l),S0,qF])] J ⟨c0,(TV.txt _ e.l (by first|assumption|decide|(unfold R47;omega))),trivial⟩ (show 2<=R47 by decide);refine cY 209 #[(Sl f 0 2 2)] (.agg #[(I6 4),(U6 0),(St []),(Sl f 0 2 2),qF]) (λW a=>eD _ _ _ W) ?_;refine aX 1 E (zq 1 (zn (aA (dW [2,0] [(E,5)] [(.agg #[(I6 4),(U6 0),(St []),(Sl f 0 2 2),qF]),(I6 0)] (λW' a=>?_)))));exact aJ a (View.le_trans k A) ⟨[(I6 4),(U6 0),(St []),(Sl f 0 2 2),qF],rfl,((TV.list 2 L)).cast (by simp only[Ei.tree,N,h1,X,bs,bQ,reduceIte])⟩
theorem WY{α:Type}{f:α->Bool}{l:List α}{i:Nat}{y:α}(h:l[i]? =some y):(l.drop i).all f=(f y&&(l.drop (i+1)).all f):=by
 obtain⟨a,rfl⟩:=L8.1 h;rw[R1 a,W4]
theorem gN{t:Itm.Tr}(n:Nat)(h:t.k≠4):Itm.aU (n+1) t=Itm.okN t.k t.n t.s t.l.length t.o:=by
 rw[Itm.aU];cases ho:Itm.okN t.k t.n t.s t.l.length t.o with
 |false=>rfl
 |true=>
  have d:t.l.length=0:=by
   rcases Itm.lW ho with⟨_,_,a,_⟩|⟨_,_,a,_⟩|⟨_,_,a,_⟩|⟨a,_⟩
   ·exact a
   ·exact a
   ·exact a
   ·exact absurd a h
  rw[O7.1 d];rfl
theorem RN(t:Itm.Tr)(a:Option Addr)(c:Nat)(w:World){U:View}(d:See U w)(f:fR U a t.l):CP 239 #[.agg #[.int .i64 t.k,.int .u64 t.n,.string (B t.s),.slice a t.l.length c,.bool t.o],.int .i64 0] w (Ret (.bool false) w):=by
 refine dC 73 Tryz.func239 d ?_;refine zs (zr (aW (λg=>(zq 1 (zn (zs (zQ 2 (zn (dM (zQ 1 (zn (aA (gC 4)))))))))))))
theorem RO(n : Nat)(hn : n <= 8)(ih : ∀ (t : Itm.Tr) (cs : List Value) (w : World) {U : View}, (∀ a v, U a = some v -> w.cell? a = some v) -> TV U t cs -> CP 239 #[.agg cs.toArray, .int .i64 (n : Int)] w (Ret (.bool (Itm.aU n t)) w))
    (t:Itm.Tr) (a:Option Addr) (c:Nat) (w:World) {U:View} (hU:See U w) (L:fR U a t.l):CP 239 #[.agg #[.int .i64 t.k,.int .u64 t.n,.string (B t.s),.slice a t.l.length c,.bool t.o],.int .i64 ((n+1:Nat):Int)] w (Ret (.bool (Itm.aU (n+1) t)) w):=by
 have J:=L.len;unfold R47 at J;refine dC 73 Tryz.func239 hU ?_;refine zs (zr (aW (λg=>(zq 1 (zn (zs (zQ 2 (zn (dY (decide (((n+1:Nat):Int)<1)) (P0 oW) ?_)))))))));refine zk (zs (zB [0,1] [(g,1)] (zn (aB (zQ 2 (zn (fC t.k 0 (λh0 Y=>?_) (λh0 Y=>?_))))))))
 ·refine zB [0,1] [(g,1)] (cB (.bool (t.s==[])) (gZ _ _ _ _ rfl t.s [] kR kR) ?_);refine zq 1 (jZ 16 t.s [] (λh1 a8=>?_) (λh1 a8=>?_))
  ·refine cF [0,1,0,0,0,0] [(g,1)] (jZ 22 (t.l.length:Int) 0 (λh2 b3=>?_) (λh2 b3=>?_))
   ·refine cF [0,1,0,0,0] [(g,1)] (zn (aA (aO [4] [(.bool (!t.o))] (λj f=>?_))));refine⟨?_,f.below⟩;rw[gN n oW];unfold Itm.okN;rw[N1 oW];simp only[R4 (show(t.s=[]) by assumption),R4 (show(t.l.length=0) by omega),bs,bQ,reduceIte]
    try rfl
   ·refine zq 5 (zn (aA (aO [4] [qF] (λj f=>?_))));refine⟨?_,f.below⟩;rw[gN n oW];unfold Itm.okN;rw[N1 oW];simp only[R4 (show(t.s=[]) by assumption),P0 (show¬(t.l.length=0) by omega),bs,bQ,reduceIte]
    try rfl
  ·refine zq 11 (zn (aA (aO [4] [qF] (λj f=>?_))));refine⟨?_,f.below⟩;rw[gN n oW];unfold Itm.okN;rw[N1 oW];simp only[P0 (show¬(t.s=[]) by assumption),bs,bQ,reduceIte]
   try rfl
 ·refine zs (zQ 2 (zn (fC t.k 2 (λh3 b4=>?_) (λh3 b4=>?_))))
  ·refine zk (jG (t.k==2) h3 ?_);refine zB [0,1,0,0] [(g,1)] (jZ 33 (t.n:Int) 0 (λh4 b5=>?_) (λh4 b5=>?_))
   ·refine cF [0,1,0,0,0,0] [(g,1)] (jZ 39 (t.l.length:Int) 0 (λh5 b6=>?_) (λh5 b6=>?_))
    ·refine cF [0,1,0,0,0] [(g,1)] (zn (aA (aO [4] [(.bool (!t.o))] (λj f=>?_))));refine⟨?_,f.below⟩;rw[gN n oW];unfold Itm.okN;rw[M5 oW,N1 oW];simp only[R4 (show(t.n=0) by omega),R4 (show(t.l.length=0) by omega),bs,bQ,reduceIte]
     try rfl
    ·refine zq 5 (zn (aA (aO [4] [qF] (λj f=>?_))));refine⟨?_,f.below⟩;rw[gN n oW];unfold Itm.okN;rw[M5 oW,N1 oW];simp only[R4 (show(t.n=0) by omega),P0 (show¬(t.l.length=0) by omega),bs,bQ,reduceIte]
     try rfl
   ·refine zq 11 (zn (aA (aO [4] [qF] (λj f=>?_))));refine⟨?_,f.below⟩;rw[gN n oW];unfold Itm.okN;rw[M5 oW,N1 oW];simp only[P0 (show¬(t.n=0) by omega),bs,bQ,reduceIte]
    try rfl
  ·refine zr (zq 2 (zn (fC t.k 3 (λh6 b7=>?_) (λh6 b7=>?_))))
   ·refine zB [0,1,0,0] [(g,1)] (jZ 33 (t.n:Int) 0 (λh7 b8=>?_) (λh7 b8=>?_))
    ·refine cF [0,1,0,0,0,0] [(g,1)] (jZ 39 (t.l.length:Int) 0 (λh8 b9=>?_) (λh8 b9=>?_))
     ·refine cF [0,1,0,0,0] [(g,1)] (zn (aA (aO [4] [(.bool (!t.o))] (λj f=>?_))));refine⟨?_,f.below⟩;rw[gN n oW];unfold Itm.okN;rw[M5 oW,N1 oW];simp only[R4 (show(t.n=0) by omega),R4 (show(t.l.length=0) by omega),bs,bQ,reduceIte]
      try rfl
     ·refine zq 5 (zn (aA (aO [4] [qF] (λj f=>?_))));refine⟨?_,f.below⟩;rw[gN n oW];unfold Itm.okN;rw[M5 oW,N1 oW];simp only[R4 (show(t.n=0) by omega),P0 (show¬(t.l.length=0) by omega),bs,bQ,reduceIte]
      try rfl
    ·refine zq 11 (zn (aA (aO [4] [qF] (λj f=>?_))));refine⟨?_,f.below⟩;rw[gN n oW];unfold Itm.okN;rw[M5 oW,N1 oW];simp only[P0 (show¬(t.n=0) by omega),bs,bQ,reduceIte]
     try rfl
   ·refine zQ 2 (zn (fC t.k 4 (λh9 c0=>?_) (λh9 c0=>?_)))
    ·refine zs (zB [0,1,0,0] [(g,1)] (jB 49 (t.n:Int) 0 (λZ F=>?_) (λZ F=>?_)))
     ·refine zq 10 (zn (dM (zQ 1 (zn (aA (aO [4] [qF] (λj f=>?_)))))));refine⟨?_,f.below⟩;have r:Itm.okN t.k t.n t.s t.l.length t.o=false:=by unfold Itm.okN;rw[M5 oW,M5 oW,N1 oW];simp;intros;first|omega|contradiction
      rw[Itm.aU,r];rfl
     ·refine cF [0,1] [(g,1)] (cB (.bool (!(t.s==[]))) (mI _ _ _ _ rfl t.s [] kR kR) ?_);refine zq 2 (cN 54 (!(t.s==[])) (λk=>?_) (λk=>?_))
      ·refine zq 5 (zn (dM (zQ 1 (zn (aA (aO [4] [qF] (λj f=>?_)))))));have C:t.s≠[]:=by simpa using k
       refine⟨?_,f.below⟩;have r:Itm.okN t.k t.n t.s t.l.length t.o=false:=by unfold Itm.okN;rw[M5 oW,M5 oW,N1 oW];simp;intros;first|omega|contradiction
       rw[Itm.aU,r];rfl
      ·refine cF [0,1,0,0,0] [(g,1)] (zn (aZ ((t.l.length:Int)>1000) (λa6 G=>?_) (λa6 G=>?_)))
       ·refine zQ 1 (zn (aA (aO [4] [qF] (λj f=>?_))));have C:t.s=[]:=by simpa using k
        refine⟨?_,f.below⟩;have r:Itm.okN t.k t.n t.s t.l.length t.o=false:=by unfold Itm.okN;rw[M5 oW,M5 oW,N1 oW];simp;intros;first|omega|contradiction
        rw[Itm.aU,r];rfl
       ·refine zk (zs (zB [0,1,0,0] [(g,1)] (zn (aB (eF (α:=Nat) (λx=>[1,4,61,62,63].zip [(L6 (n+1)),qF,(.slice a t.l.length c),(L6 t.l.length),(L6 x)]) (λx=>U) (λx=>[(bK g (tC t a c) 136)]) (λx=>x<=t.l.length/\(t.l.drop x).all (Itm.aU n)=t.l.all (Itm.aU n)) (λx=>t.l.length-x) 0 ?_ ?_)))))
        ·exact⟨M8 _,by rw[W5]⟩
        intro x hx;obtain⟨e0,D⟩:=hx;refine zQ 1 (zn (zs (aZ ((x:Int)<(t.l.length:Int)) (λa7 I=>?_) (λa7 I=>?_))))
        ·refine zk (zs (aB (zs (zr ?_))));obtain⟨u,E⟩:∃y,(t.l)[x]? =some y:=⟨(t.l)[x]'oW,K8 _⟩;obtain⟨M,N,c6,rfl,c2,K⟩:=L.at_ x u E;obtain⟨O,X,rfl,c4,c8,c9,c7⟩:=K.form;refine cB (Pt M (N+x*5)) (rIx 136 rfl M N t.l.length c x 5) ?_;refine zU M (N+x*5) (tC u O X) c2 136 (.tmp 65) _ Tryz.underlying136 rfl ?_;refine aW (λV=>(aX 1 V (zn (zB [2,0,0] [(V,5)] (dZ 69 (I6 (IntKind.i64.wrap (((n+1:Nat):Int)-1))) (L6 n) (M0 (Value.int .i64) (by rw[IntWalk.i64_in _ oW];omega)) ?_)))));refine cY 239 #[(tV u O X),(L6 n)] (.bool (Itm.aU n u)) (λW f=>ih _ _ W f.view K) ?_;refine zq 1 (zn (gK (!(Itm.aU n u)) (λA=>?_) (λA=>?_)))
         ·refine zQ 1 (zn (aA (aO [4] [qF] (λj f=>?_))));have C:t.s=[]:=by simpa using k
          have r:Itm.okN t.k t.n t.s t.l.length t.o=true:=by unfold Itm.okN;rw[M5 oW,M5 oW,N1 oW];simp;refine⟨⟨by omega,by assumption⟩,by omega⟩
          refine⟨?_,f.below⟩;rw[Itm.aU,r,<-D,WY E,show Itm.aU n u=false by simpa using A];rfl
         ·refine zk (zr (zq 1 (dH 72 ((x:Int)+1) (zq 1 (zn ?_)))));refine nx (x+1) ?_ ?_ (d:=λ_ h=>Mem.sub (M4 _ _) (h.eqv (show _=([(bK g [(I6 t.k),(N6 t.n),(St t.s),(Sl M N t.l.length c),(.bool t.o)] 136)]:aH)++([(bK V (tC u O X) 136)]:aH)from by kernel_rfl)))
          ·exact⟨by omega,by rw[<-D,WY E,show Itm.aU n u=true by simpa using A,R9]⟩
          ·show t.l.length-(x+1)<t.l.length-x;omega
        ·refine aI (zQ 1 (zn (aA (aO [4] [qT] (λj f=>?_)))));have C:t.s=[]:=by simpa using k
         have r:Itm.okN t.k t.n t.s t.l.length t.o=true:=by unfold Itm.okN;rw[M5 oW,M5 oW,N1 oW];simp;refine⟨⟨by omega,by assumption⟩,by omega⟩
         refine⟨?_,f.below⟩;rw[Itm.aU,r,<-D,ar oW];rfl
    ·refine zk (zQ 1 (zn (aA (aO [4] [qF] (λj f=>?_)))));refine⟨?_,f.below⟩;rw[gN n oW];unfold Itm.okN;rw[M5 oW,M5 oW,M5 oW];rfl
theorem IY:∀(n:Nat),n<=8->∀(t:Itm.Tr) (cs:List Value) (w:World) {U:View},(∀a v,U a=some v->w.cell? a=some v)->TV U t cs->CP 239 #[.agg cs.toArray,.int .i64 (n:Int)] w (Ret (.bool (Itm.aU n t)) w)
 |0,_,t,cs,w,U,f,h=>by
  obtain⟨a,c,rfl,d,j,hs,g⟩:=h.form;exact RN t a c w f d
 |n+1,j,t,cs,w,U,f,h=>by
  obtain⟨a,c,rfl,d,_,hs,g⟩:=h.form;exact RO n oW (IY n oW) t a c w f d
theorem mS(t:Itm.Tr)(cs:List Value)(w:World){U:View}(j:See U w)(h:TV U t cs):CP 210 #[.agg cs.toArray] w (Ret (.bool (Itm.aU 8 t)) w):=by
 have f:=h;obtain⟨a,c,rfl,k,u,hs,r⟩:=h.form;refine dC 5 Tryz.func210 j ?_;refine zs (zr (aW (λd=>(zq 1 (zn (zB [1] [(d,5)] (cY 239 #[(tV t a c),(I6 8)] (.bool (Itm.aU 8 t)) (λW g=>IY 8 (by decide) t _ W g.view f) ?_)))))));refine zq 1 (zn (aA (gC 2)))
noncomputable def eqT(a b:Itm.Tr):Bool:=@decide (a=b) (Classical.propDecidable _)
noncomputable def eqL(a b:List Itm.Tr):Bool:=@decide (a=b) (Classical.propDecidable _)
theorem TM{a b:Itm.Tr}:eqT a b=true↔a=b:=by unfold eqT;simp
theorem TN{a b:List Itm.Tr}:eqL a b=true↔a=b:=by unfold eqL;simp
theorem KH{a b:Itm.Tr}:eqT a b=false↔a≠b:=by unfold eqT;simp
theorem WL{l m:List Itm.Tr}{i:Nat}{y z:Itm.Tr}(f:l[i]? =some y)(g:m[i]? =some z):eqL (l.drop i) (m.drop i)=(eqT y z&&eqL (l.drop (i+1)) (m.drop (i+1))):=by
 obtain⟨a,rfl⟩:=L8.1 f;obtain⟨d,rfl⟩:=L8.1 g;rw[R1 a,R1 d];rw[T7,L5,TN,TM,TN,Z6]
theorem Uk(t u:Itm.Tr)(a:t.k=u.k)(d:t.n=u.n)(f:t.s=u.s)(g:t.o=u.o):eqT t u=eqL t.l u.l:=by
 obtain⟨k,n,s,l,o⟩:=t;obtain⟨j,A,C,r,B⟩:=u;simp only[Itm.Tr.k,Itm.Tr.n,Itm.Tr.s,Itm.Tr.l,Itm.Tr.o]at *;subst a d f g;rw[T7,TM,TN];exact⟨λh=>by injection h,λh=>by rw[h]⟩
theorem XT(n : Nat)(ih : ∀ (t u : Itm.Tr) (cs ds : List Value) (w : World) {U : View}, (∀ a v, U a = some v -> w.cell? a = some v) -> TV U t cs -> TV U u ds -> Itm.aU n t = true -> CP 237 #[.agg cs.toArray, .agg ds.toArray] w (Ret (.bool (eqT t u)) w))
    (t u:Itm.Tr) (a b:Option Addr) (c d:Nat) (w:World) {U:View} (hU:See U w) (I:fR U a t.l) (a8:fR U b u.l) (hr:t.l.all (Itm.aU n)=true):
    CP 237 #[.agg #[.int .i64 t.k,.int .u64 t.n,.string (B t.s),.slice a t.l.length c,.bool t.o],.agg #[.int .i64 u.k,.int .u64 u.n,.string (B u.s),.slice b u.l.length d,.bool u.o]] w (Ret (.bool (eqT t u)) w):=by
 have E:=I.len;unfold R47 at E;refine dC 60 Tryz.func237 hU ?_;refine zs (zr (aW (λg=>(aW (λr=>(zq 1 (zn (zs (zB [0,1,0,2,0,0] [(g,1),(r,1)] (jB 11 t.k u.k (λY _=>?_) (λY b9=>?_)))))))))))
 ·refine zq 29 (zn (dM (zQ 1 (zn (aA (aO [4] [qF] (λD f=>?_)))))));refine⟨?_,f.below⟩;rw[show eqT t u=false from KH.2 λh=>by have:=Y;rw[h]at this;simp at this];rfl
 ·refine cF [0,1,0,2,0,0,0] [(g,1),(r,1)] (jB 18 (t.n:Int) (u.n:Int) (λZ _=>?_) (λZ c0=>?_))
  ·refine zq 22 (zn (dM (zQ 1 (zn (aA (aO [4] [qF] (λD f=>?_)))))));refine⟨?_,f.below⟩;rw[show eqT t u=false from KH.2 λh=>by have:=Z;rw[h]at this;simp at this];rfl
  ·refine cF [0,1,0,2] [(g,1),(r,1)] (cB (.bool (!(t.s==u.s))) (mI _ _ _ _ rfl t.s u.s kR kR) ?_);refine zq 2 (cN 25 (!(t.s==u.s)) (λh2=>?_) (λh2=>?_))
   ·refine zq 15 (zn (dM (zQ 1 (zn (aA (aO [4] [qF] (λD f=>?_)))))));refine⟨?_,f.below⟩;rw[show eqT t u=false from KH.2 λh=>by have:=h2;rw[h]at this;simp at this];rfl
   ·refine cF [0,1,0,2,0,0,0] [(g,1),(r,1)] (cN 32 (!(t.o==u.o)) (λh3=>?_) (λh3=>?_))
    ·refine zq 8 (zn (dM (zQ 1 (zn (aA (aO [4] [qF] (λD f=>?_)))))));refine⟨?_,f.below⟩;rw[show eqT t u=false from KH.2 λh=>by have:=h3;rw[h]at this;simp at this];rfl
    ·refine cF [0,1,0,0,2,0,0,0] [(g,1),(r,1)] (zn (iE (t.l.length:Int) (u.l.length:Int) (λh4 _=>?_) (λh4 c1=>?_)))
     ·refine zQ 1 (zn (aA (aO [4] [qF] (λD f=>?_))));refine⟨?_,f.below⟩;rw[show eqT t u=false from KH.2 λh=>by have:=h4;rw[h]at this;simp at this];rfl
     ·refine zk (zs (zs (zr ?_)));have hK:t.k=u.k:=by have:=Y;simpa using this
      have hN:t.n=u.n:=by have:=Z;simp at this;omega
      have hS:t.s=u.s:=by have:=h2;simpa using this
      have hO:t.o=u.o:=by have:=h3;simpa using this
      have c4:t.l.length=u.l.length:=by have:=h4;simp at this;omega
      refine cF [0,1,0,0] [(g,1)] (zn (aB (eF (α:=Nat) (λx=>[2,3,4,43,44].zip [(Pt g 0),(Pt r 0),qF,(L6 t.l.length),(L6 x)]) (λx=>U) (λx=>[(bK g (tC t a c) 136),(bK r (tC u b d) 136)]) (λx=>x<=t.l.length/\eqL (t.l.drop x) (u.l.drop x)=eqT t u) (λx=>t.l.length-x) 0 ?_ ?_)))
      ·exact⟨M8 _,by rw[W5,W5];exact(Uk t u hK hN hS hO).symm⟩
      intro x hx;obtain⟨e2,A⟩:=hx;refine zQ 1 (zn (zs (aZ ((x:Int)<(t.l.length:Int)) (λh5 a1=>?_) (λh5 a1=>?_))))
      ·refine zk (zs (aB (zQ 2 (zn (zs ?_)))));obtain⟨k,j⟩:∃y,(t.l)[x]? =some y:=⟨(t.l)[x]'oW,K8 _⟩;obtain⟨L,V,b7,rfl,a6,F⟩:=I.at_ x k j;obtain⟨J,N,rfl,b5,c8,e0,c6⟩:=F.form;obtain⟨y3,C⟩:∃y,(u.l)[x]? =some y:=⟨(u.l)[x]'oW,K8 _⟩;obtain⟨M,X,b8,rfl,a7,G⟩:=a8.at_ x y3 C;obtain⟨K,O,rfl,b6,c9,e1,c7⟩:=G.form;have b4:=M7.1 hr k (K9 j);refine gI 4 [0,3,0,1,1,0,4,0,1,1] [(g,1),(r,1)] [.val (Pt L (V+x*5)),.val (tV k J N),.val (Pt M (X+x*5)),.val (tV y3 K O)] ⟨?_,?_,?_,?_,trivial⟩ ?_
       ·exact vR (rIx 136 rfl L V t.l.length c x 5)
       ·exact vU L (V+x*5) (tC k J N) a6 136 _ _ Tryz.underlying136 rfl
       ·exact vR (rIx 136 rfl M X u.l.length d x 5)
       ·exact vU M (X+x*5) (tC y3 K O) a7 136 _ _ Tryz.underlying136 rfl
       refine cY 237 #[(tV k J N),(tV y3 K O)] (.bool (eqT k y3)) (λW f=>ih _ _ _ _ W f.view F G b4) ?_;refine zq 1 (zn (gK (!(eqT k y3)) (λh6=>?_) (λh6=>?_)))
       ·refine zQ 1 (zn (aA (aO [4] [qF] (λD f=>?_))));refine⟨?_,f.below⟩;rw[<-A,WL j C,show eqT k y3=false by simpa using h6];rfl
       ·refine zk (zr (zq 1 (dH 59 ((x:Int)+1) (zq 1 (zn ?_)))));refine nx (x+1) ?_ ?_
        ·exact⟨by omega,by rw[<-A,WL j C,show eqT k y3=true by simpa using h6,R9]⟩
        ·show t.l.length-(x+1)<t.l.length-x;omega
      ·refine aI (zQ 1 (zn (aA (aO [4] [qT] (λD f=>?_)))));refine⟨?_,f.below⟩;rw[<-A,ar oW,ar oW,show eqL [] []=true by unfold eqL;simp];rfl
theorem NY:∀(n:Nat) (t u:Itm.Tr) (cs ds:List Value) (w:World) {U:View},(∀a v,U a=some v->w.cell? a=some v)->TV U t cs->TV U u ds->Itm.aU n t=true->CP 237 #[.agg cs.toArray,.agg ds.toArray] w (Ret (.bool (eqT t u)) w)
 |0,t,u,cs,ds,w,U,_,_,_,f=>by cases f
 |n+1,t,u,cs,ds,w,U,r,h,k,f=>by
  obtain⟨a,c,rfl,g,_,_,_⟩:=h.form;obtain⟨b,d,rfl,j,_,_,_⟩:=k.form;rw[Itm.aU,L5]at f;exact XT n (NY n) t u a b c d w r g j f.2
noncomputable def BQ(t u:Itm.Tr):Bool:=if Itm.aU 8 t then(if Itm.aU 8 u then eqT t u else false)else false
theorem KB(t u:Itm.Tr)(cs ds:List Value)(w:World){U:View}(E:See U w)(h:TV U t cs)(D:TV U u ds):CP 200 #[.agg cs.toArray,.agg ds.toArray] w (Ret (.bool (BQ t u)) w):=by
 have j:=h;have k:=D;obtain⟨a,c,rfl,F,_,_,_⟩:=h.form;obtain⟨b,d,rfl,G,_,_,_⟩:=D.form;refine dC 16 Tryz.func200 E ?_;refine zs (zr (aW (λB=>(aW (λC=>(zq 1 (zn (zB [1] [(B,5)] (cY 210 #[(tV t a c)] (.bool (Itm.aU 8 t)) (λW f=>mS t _ W f.view j) ?_)))))))));refine zq 1 (cN 7 (Itm.aU 8 t) (λg=>?_) (λg=>?_))
 ·refine cF [2] [(C,5)] (cY 210 #[(tV u b d)] (.bool (Itm.aU 8 u)) (λW f=>mS u _ W f.view k) ?_);refine zq 2 (cN 11 (Itm.aU 8 u) (λr=>?_) (λr=>?_))
  ·refine cF [1,2] [(B,5),(C,5)] (cY 237 #[(tV t a c),(tV u b d)] (.bool (eqT t u)) (λW f=>NY 8 t u _ _ W f.view j k g) ?_);refine zq 2 (zn (aA (aO [4] [(.bool (eqT t u))] (λA f=>?_))));exact⟨by simp only[dD,BQ,g,r,bs,bQ,reduceIte],f.below⟩
  ·refine zq 5 (zn (aA (aO [4] [qF] (λA f=>?_))));exact⟨by simp only[dD,BQ,g,r,bs,bQ,reduceIte],f.below⟩
 ·refine zq 9 (zn (aA (aO [4] [qF] (λA f=>?_))));exact⟨by simp only[dD,BQ,g,bs,bQ,reduceIte],f.below⟩
theorem dG{P : Program}{n : Nat}{W0 : Cx}{Q : XQ}{s : cA}{U : View}{σ : aH}{α : Type}{x y : Code}(Sf : α -> cA)(Uf : α -> View)(Of : α -> aH)(g : α -> Prop)
  (u:SXC P n W0 (NO (λs' h σ'=>∃z,g z/\(∀t v,look (Sf z) t=some v->look s' t=some v)/\(∀W,Mem W0 h σ' W->Mem W0 (Uf z) (Of z) W)) Q) x s U σ)
  (A:∀z,g z->SXC P n W0 Q y (Sf z) (Uf z) (Of z)):SXC P n W0 Q (.seq x y) s U σ:=by
 refine⟨λa W C B=>wp_seq (wp_mono (u.go a W C B) ?_)⟩;rintro e r j ⟨s',h,σ',d,f,k⟩;cases e with
 |normal=>
  obtain⟨z,D,hs,E⟩:=k;exact SXC.go (A z D) r j ⟨d.size,d.defers,λt v F=>d.slots t v (hs t v F)⟩ (E j f)
 |_=>exact⟨s',h,σ',d,f,k⟩
theorem Tu(n:Nat)(g:n<W64)(a:Option Addr)(c:Nat)(w:World):CP 211 #[.agg #[(.int .i64 0),(.int .u64 (n:Int)),(.string (B [])),(.slice a 0 c),(.bool false)]] w (Ret (.string (B (Itm.aF 0 n))) w):=by
 refine dF 48 Tryz.func211 ?_;refine zs (zr (aW (λd=>(zq 1 (zn (zs (zB [0,1] [(d,1)] (zn (aB (zQ 2 (zn (dM (zB [0,1] [(d,1)] (dN (λW f=>jK 0 n W oW (by first|assumption|(unfold W64;omega)|decide)) (zq 1 (zn (aA (gC 2))))))))))))))))))
theorem Tv(l:List UInt8)(g:l.length<=R47)(a:Option Addr)(c:Nat)(w:World):CP 211 #[.agg #[(.int .i64 2),(.int .u64 0),(.string (B l)),(.slice a 0 c),(.bool false)]] w (Ret (.string (B (Itm.aF 2 l.length++l))) w):=by
 refine dF 48 Tryz.func211 ?_;refine zs (zr (aW (λd=>(zq 1 (zn (zs (zB [0,1] [(d,1)] (zn (aB (zQ 2 (zn (cU (zQ 2 (zn (dM (zB [0,1] [(d,1)] (dN (λW f=>KK l W (by first|assumption|(unfold R47;omega))) (zq 1 (zn (aA (gC 2)))))))))))))))))))))
theorem Tw(l:List UInt8)(g:l.length<=R47)(a:Option Addr)(c:Nat)(w:World):CP 211 #[.agg #[(.int .i64 3),(.int .u64 0),(.string (B l)),(.slice a 0 c),(.bool false)]] w (Ret (.string (B (Itm.aF 3 l.length++l))) w):=by
 refine dF 48 Tryz.func211 ?_;refine zs (zr (aW (λd=>(zq 1 (zn (zs (zB [0,1] [(d,1)] (zn (aB (zQ 2 (zn (cU (zQ 2 (zn (cU (zQ 2 (zn (dM (zB [0,1] [(d,1)] (dN (λW f=>Ty l W (by first|assumption|(unfold R47;omega))) (zq 1 (zn (aA (gC 2))))))))))))))))))))))))
theorem qH{l:List Itm.Tr}{i:Nat}{y:Itm.Tr}(h:l[i]? =some y):Itm.aY (l.drop i)=Itm.aG y++Itm.aY (l.drop (i+1)):=by
 obtain⟨a,rfl⟩:=L8.1 h;rw[R1 a,Itm.aY]
def DK:Nat:=72057594037927936
theorem Tt(d : Nat)(l : List Itm.Tr)(o : Bool){U : View}{w : World}(hU : See U w)(a : Option Addr)(c : Nat)(F : fR U a l)
    (ih:∀(t:Itm.Tr) (cs:List Value) {U:View} {w:World},(∀a v,U a=some v->w.cell? a=some v)->TV U t cs->Itm.aU d t=true->Itm.szT t<=DK->CP 211 #[.agg cs.toArray] w (Ret (.string (B (Itm.aG t))) w))
    (hr:l.all (Itm.aU d)=true) (V:Itm.szL l<=DK):
    CP 211 #[.agg #[.int .i64 4,.int .u64 0,.string (B []),.slice a l.length c,.bool o]] w (Ret (.string (B ((if o then[159]else Itm.aF 4 l.length)++(Itm.aY l++(if o then[255]else[]))))) w):=by
 have C:=F.len;unfold R47 at C;have b5:=Itm.sH l;have b6:=Itm.aE 4 l.length;have D:=V;unfold DK at D;refine dC 48 Tryz.func211 hU ?_;refine zs (zr (aW (λr=>(zq 1 (zn (zs (zB [0,1] [(r,1)] (zn (aB (zQ 2 (zn (cU (zQ 2 (zn (cU (zQ 2 (zn (cU (zk (zB [0,1,0,0] [(r,1)] (dZ 27 (U6 (IntKind.u64.wrap (l.length:Int))) (N6 ((l.length:Nat))) (M0 (Value.int .u64) (u64_in oW oW)) ?_)))))))))))))))))))));let Y1:aH:=[(r,.cells [(I6 4),(U6 0),(St []),(.slice a l.length c),(.bool o)].toArray 136 (0,0))];refine dN (λW u=>jK 4 l.length W oW (by first|assumption|(unfold W64;omega)|decide)) (zq 2 (zn ?_));refine dG (α:=List UInt8×List UInt8) (λf=>[1,2,3,4].zip [(Pt r 0),(St []),(St f.1),(St f.2)]) (λf=>U) (λf=>Y1) (λf=>f.1=(if o then[159]else Itm.aF 4 l.length)/\(f.2=(if o then[255]else[])/\(f.1.length<=9/\f.2.length<=1))) ?_ ?_
 ·refine zB [0,1] [(r,1)] (zn (gK o (λA=>?_) (λA=>?_)))
  ·refine zr (dN (λW u=>CD W) (dN (λW u=>CC W) (zq 2 (zn ?_))));refine jn ([159],[255]) ?_;exact⟨by simp only[A,if_true,N9,if_false],by simp only[A,if_true,N9,if_false],by show([159]:List UInt8).length<=9;first|omega|decide,by show([255]:List UInt8).length<=1;decide⟩
  ·refine zk ?_;refine jn ((Itm.aF 4 l.length),[]) ?_;exact⟨by simp only[A,if_true,N9,if_false],by simp only[A,if_true,N9,if_false],by show((Itm.aF 4 l.length):List UInt8).length<=9;first|omega|decide,by show([]:List UInt8).length<=1;decide⟩
 intro f a8;obtain⟨a6,a7,c6,c7⟩:=a8;refine zs (zB [0,1,0,0] [(r,1)] (zn (aB (eF (α:=Nat×List UInt8) (λx=>[2,3,4,34,35,36].zip [(St []),(St x.2),(St f.2),(.slice a l.length c),(L6 l.length),(L6 x.1)]) (λx=>U) (λx=>Y1) (λx=>x.1<=l.length/\x.2++Itm.aY (l.drop x.1)=f.1++Itm.aY l) (λx=>l.length-x.1) (0,f.1) ?_ ?_))))
 ·exact⟨by simp,rfl⟩
 intro x hx;obtain⟨c0,g⟩:=hx;have X:=M0 List.length g;simp only[L4,M9,O8]at X;refine zQ 1 (zn (zs (aZ ((x.1:Int)<(l.length:Int)) (λh1 N=>?_) (λh1 N=>?_))))
 ·refine zk (zs (aB (zs (zr ?_))));obtain⟨k,j⟩:∃y,(l)[x.1]? =some y:=⟨(l)[x.1]'oW,K8 _⟩;obtain⟨I,J,b4,rfl,O,E⟩:=F.at_ x.1 k j;obtain⟨K,M,rfl,b3,b8,b9,b7⟩:=E.form;have Z:=M7.1 hr k (K9 j);have c2:=Itm.cV k;have c4:=Itm.Yp j;have Y:=qH j;have G:=M0 List.length Y;simp only[L4]at G;refine cB (Pt I (J+x.1*5)) (rIx 136 rfl I J l.length c x.1 5) ?_;refine zU I (J+x.1*5) (tC k K M) O 136 (.tmp 38) _ Tryz.underlying136 rfl ?_;refine aW (λL=>(aX 1 L (zn (zr (cF [0,2] [(L,5)] (cY 211 #[(tV k K M)] (St (Itm.aG k)) (λW u=>ih _ _ u.view E Z (by unfold DK;omega)) ?_))))));refine cB (St (x.2++(Itm.aG k))) (cE _ _ _ _ rfl x.2 (Itm.aG k) kR kR oA) ?_;refine zq 1 (zn (zr (zq 1 (dH 44 ((x.1:Int)+1) (zq 1 (zn ?_))))));refine nx (x.1+1,(x.2++(Itm.aG k))) ?_ ?_ (d:=λ_ h=>Mem.sub (M4 _ _) (h.eqv (show _=([(r,.cells [(I6 4),(U6 0),(St []),(Sl I J l.length c),(.bool o)].toArray 136 (0,0))]:aH)++([(bK L (tC k K M) 136)]:aH)from by kernel_rfl)))
  ·exact⟨by show x.1+1<=_;omega,by rw[<-g,qH j,M6]⟩
  ·show l.length-(x.1+1)<l.length-x.1;omega
 ·refine aI (zQ 2 (cB (St (x.2++f.2)) (cE _ _ _ _ rfl x.2 f.2 kR kR oA) ?_));refine zq 1 (zn (aA (aO [2] [(St (x.2++f.2))] (λW' u=>?_))));refine⟨?_,u.below⟩;rw[show x.1=l.length by omega,ag]at g;simp only[Itm.aY,M1]at g;simp only[dD,g,a6,a7,M6]
theorem QE:∀(d:Nat) (t:Itm.Tr) (cs:List Value) {U:View} {w:World},(∀a v,U a=some v->w.cell? a=some v)->TV U t cs->Itm.aU d t=true->Itm.szT t<=DK->CP 211 #[.agg cs.toArray] w (Ret (.string (B (Itm.aG t))) w)
 |0,t,cs,U,w,_,_,j,_=>by cases j
 |d+1,t,cs,U,w,C,h,j,u=>by
  obtain⟨a,c,rfl,A,E,hs,F⟩:=h.form;unfold Itm.aU at j;rw[L5]at j;obtain⟨r,g⟩:=j;obtain⟨k,n,s,l,o⟩:=t;simp only[Itm.Tr.k,Itm.Tr.n,Itm.Tr.s,Itm.Tr.l,Itm.Tr.o]at *;rw[Itm.szT]at u;rcases Itm.lW r with⟨rfl,rfl,f,rfl⟩|⟨rfl,rfl,f,rfl⟩|⟨rfl,rfl,f,rfl⟩|⟨rfl,rfl,rfl,D⟩
  ·obtain rfl:=O7.1 f;exact Tu n E a c w
  ·obtain rfl:=O7.1 f;exact Tv s hs a c w
  ·obtain rfl:=O7.1 f;exact Tw s hs a c w
  ·exact Tt d l o C a c A (QE d) g oW
theorem pE(t:Itm.Tr)(cs:List Value){U:View}{w:World}(r:See U w)(h:TV U t cs)(k:Itm.aU 8 t=true)(f:Itm.szT t<=DK):CP 158 #[.agg cs.toArray] w (Ret (.tuple #[.string (B (Itm.aG t)),.int .i64 0]) w):=by
 have j:=h;obtain⟨a,c,rfl,u,D,hs,C⟩:=h.form;refine dC 9 Tryz.func158 r ?_;refine zs (zr (aW (λg=>(zq 2 (zn (zs (zB [1] [(g,5)] (cY 210 #[(tV t a c)] (.bool (Itm.aU 8 t)) (λW d=>mS t _ W d.view j) ?_))))))));refine zq 1 (zn (dY (!(Itm.aU 8 t)) (by rw[k];rfl) ?_));refine zk (zB [1] [(g,5)] (cY 211 #[(tV t a c)] (St (Itm.aG t)) (λW d=>QE 8 t _ d.view j k f) ?_));refine zq 2 (zn (aA (aO [2,3] [(St (Itm.aG t)),(I6 0)] (λA d=>?_))));exact⟨rfl,d.below⟩
theorem Mem.perm{W0:Cx}{W:World}{U:View}{σ σ':aH}(C:σ.Perm σ')(h:Mem W0 U σ W):Mem W0 U σ' W:=by
 obtain⟨F,E,G,I,J⟩:=h;have A:(σ.map Prod.fst).Nodup:=by
  refine T0.2 λi j g r K B=>?_
  rw[O1]at g r;rw[T4,T4]at B;have:=J i j _ _ (K8 g) (K8 r) B;omega
 have f:(σ'.map Prod.fst).Nodup:=(C.map Prod.fst).nodup_iff.1 A;refine⟨F,E,G,λk b o u=>?_,λj k x y r u e=>?_⟩
 ·have L:(b,o)∈σ:=C.mem_iff.2 (K9 u);obtain⟨i,g⟩:=ay L;exact I i b o g
 ·have D:=T0.1 f;obtain⟨a,rfl⟩:=L8.1 r;obtain⟨d,rfl⟩:=L8.1 u;rcases bl j k with hl|hl|hl
  ·exact absurd (by rw[T4,T4];exact e) (D j k (by simpa using a) (by simpa using d) hl)
  ·exact hl
  ·exact absurd (by rw[T4,T4];exact e.symm) (D k j (by simpa using d) (by simpa using a) hl)
section
variable {P:Program} {n:Nat} {W0:Cx} {Q:XQ} {s:cA} {U:View} {σ:aH} {ops:Array Oper} {l:List Oper} {o:Oper}
theorem Yk(σ1 ρ : aH)(a : σ = σ1 ++ ρ)(x : Obj)(v : Nat -> Value)(hm : makes P s o = some (x, fun r => some (v r)))(f : fF n o = true)(g : dA ops s o = some true)
  (h:∀b,SXL P n W0 Q ops l (lQ o (v b) s) U ((σ1++[(b,x)])++ρ)):SXL P n W0 Q ops (o::l) s U σ:=by
 subst a;refine Mk x v hm f g λb=>qV U _ (λW d=>d.perm ?_) (h b)
 rw[M6,M6];exact List.Perm.append (bG _) Q2
theorem fK(r : Rw)(A : List Value)(m : Nat)(σ1 : aH)(e : TypeId)(t : TypeId)(z bytes k : Nat)(K : σ = σ1 ++ r.B e A)(D : r.ok z m A)(x y : Operand)(ho : o.op = .call { callee := .builtin .append, args := #[x, y], argTypes := #[t, t] })(hx : evS s x = some (r.V m))
  (b f c:Nat) (a:List Value) (hy:evS s y=some (.slice (some ⟨b,f,none⟩) k c)) (d:∀W,Mem W0 U σ W->W.rangeAt b f a) (Y:a.length=k*z) (L:∀u∈a,u.oneCell'=true) (X:0<k) (B:m+k<=maxLen) (C:(m+k)*bytes<=140737488355328)
  (g:(P.info? e).map (λi=>(i.size,i.bytes,i.zero.map (·.cells.size)))=some (z,bytes,some z)) (Z:P.underlying t=some (.slice e)) (G:Nat.blt 0 z=true)
  (V:fF n o=true) (hw:dA ops s o=some true)
  (h:∀j:Rw,j.ok z (m+k) (A++a)->SXL P n W0 Q ops l (lQ o (j.V (m+k)) s) U (σ1++j.B e (A++a))):SXL P n W0 Q ops (o::l) s U σ:=by
 cases E:P.info? e with
 |none=>rw[E]at g;cases g
 |some inf=>
  rw[E]at g;simp only[U4,L0,N3]at g;obtain⟨M,N,O⟩:=g;obtain⟨zv,I,J⟩:=U5.1 O;refine Ge r A m σ1 [] e t z bytes k (by rw[M1];exact K) D x y ho hx b f c a hy d Y (M7.2 L) X B C inf zv Z E I M N J (by simpa[Z5]using G) V hw λj F=>?_
  have:=h j F;rw[M1];exact this
def QQ(w:World)(e:TypeId)(z n:Nat)(xs:List Value):Ending->World->Prop:=λen w'=>∃b cap junk,en=.returned (.slice (some ⟨b,0,none⟩) n cap)/\Below w.heap.size w w'/\w.heap.size<=b/\w'.heap[b]? =some (.cells (xs++junk).toArray e (0,0))/\(Rw.row b cap junk).ok z n xs
theorem LI(f : FuncId)(d : Array Value)(e : TypeId)(z m : Nat)(u : List Value)(D : enters P s o = some (f, d))(G : ∀ W, Mem W0 U σ W -> Calls P f d W (QQ W e z m u))(I : fF n o = true)(K : dA ops s o = some true)
  (h:∀b g junk,(Rw.row b g junk).ok z m u->SXL P n W0 Q ops l (lQ o (.slice (some ⟨b,0,none⟩) m g) s) U (σ++[(b,.cells (u++junk).toArray e (0,0))])):SXL P n W0 Q ops (o::l) s U σ:=by
 refine tX f d D I K λW r=>(G W r).mono ?_
 rintro M E ⟨b,g,junk,rfl,F,B,A,C⟩;refine⟨_,_,U,_,rfl,?_,rfl,h b g junk C⟩;have j:=r.call F;have hs:Mem W0 U (σ++([]++[])) E:=by simpa using j
 have:=hs.swap (B':=[(b,.cells (u++junk).toArray e (0,0))]) j.below (λ_ _ _=>rfl) j.view (.inr ⟨b,_,rfl,A,X0 r.below.size B,λa N=>?_,λk x L D=>?_⟩)
 ·simpa using this
 ·cases J:U a with
  |none=>rfl
  |some v=>have:=oR (r.view a v J);omega
 ·have:=gQ (r.own k x.1 x.2 (by simpa using L)).1;omega
theorem BR{w W':World}{U V:View}{σ1:aH}{r:Rw}{e:TypeId}{z m:Nat}{d:List Value}(f:Mem ⟨w,U⟩ V (σ1++r.B e d) W')(a:r.ok z m d)(hm:0<m):QQ w e z m d (.returned (r.V m)) W':=by
 cases r with
 |nil=>obtain⟨rfl,_⟩:=a;omega
 |row b cap junk=>
  obtain⟨g,h,_⟩:=f.own (σ1.length+0) b (.cells (d++junk).toArray e (0,0)) (by
   have:=getElem?_mid σ1 [(b,Obj.cells (d++junk).toArray e (0,0))] [] 0 _ rfl;rw[M1]at this;exact this)
  exact⟨b,cap,junk,rfl,f.below,h,g,a⟩
theorem Rj(k b a m : Nat)(cs : List Value)(t d : TypeId)(v : Value)(x y : Operand)(ho : o.op = .store d x y)(u : evS s x = some (.pointer (some ⟨b, a, none⟩)))(A : evS s y = some v)
  (g:σ[k]? =some (b,.cells cs.toArray t (0,0))) (hs:qW P d v m=true) (j:a+m<=cs.length) (f:o.dst=none) (r:dA ops s o=some true)
  (h:SXL P n W0 Q ops l s U (σ.set k (b,.cells (cJ cs a v.cells.toList).toArray t (0,0)))):SXL P n W0 Q ops (o::l) s U σ:=by
 refine Kk k b a m cs t d v x y ho u A g hs (Nat.ble_eq_true_of_le j) (by unfold fF;rw[f]) r ?_;unfold lQ;rw[f];exact h
theorem qY(t j:TypeId)(x y:Operand)(ho:o.op=.binOp .eql t x y j)(a:Option Addr)(k c:Nat)(e:TypeId)(g:evS s x=some (.slice a k c))(h:evS s y=some (.slice none 0 0))(f:P.underlying t=some (.slice e))(W:World):(execOp (ev s) o).run P W=.ok (.value (.bool a.isNone)) W:=by
 unfold execOp;simp only[ho,eM g,eM h,binOp,eqGuard,Op.equal];obtain⟨d,hm⟩:∃d,Op.maxDepth=d+1:=⟨9999,rfl⟩;rw[hm];clear hm;cases a<;>simp only[Op.equalIn,Sem.run_bind,run_underlying f W,Result.andThen_ok,Sem.run_pure,show((BinOp.eql matches .eql| .neq)=true)=True from by simp,Bool.not_true,Bool.not_false,N9,if_false,if_true,Option.isNone_none,Option.isNone_some]<;>rfl
theorem eY(σ1 d:aH)(b:Nat)(cs:List Value)(t:TypeId)(A:σ=σ1++((b,.cells cs.toArray t (0,0))::d))(h:∀V,View.le U V->V.range b 0 cs->SXL P n W0 Q ops l s V (σ1++d)):SXL P n W0 Q ops l s U σ:=by
 subst A;refine⟨λa W E j=>?_⟩;have hs:Mem W0 U (σ1++d) W:=j.sub (N4 (N7 _) (bU _ _));have f:(σ1++((b,Obj.cells cs.toArray t (0,0))::d))[σ1.length]? =some (b,.cells cs.toArray t (0,0)):=by
  rw[P8 (O9 _),U9];rfl
 obtain⟨J,K,_⟩:=j.own _ _ _ f;obtain⟨V,B,C,D⟩:=hs.addView J K λk x g F=>by
  have r:∃i,(σ1++((b,Obj.cells cs.toArray t (0,0))::d))[i]? =some x/\i≠σ1.length:=by
   by_cases I:k<σ1.length
   ·exact⟨k,by rw[Q1 I]at g ⊢;exact g,by omega⟩
   ·refine⟨k+1,?_,by omega⟩;rw[P8 oW]at g;rw[P8 oW,show k+1-σ1.length=(k-σ1.length)+1 by omega,Q7];exact g
  obtain⟨i,G,u⟩:=r;exact u (j.apart i _ _ _ G f F)
 exact(h V B C).go a W E D
end
theorem cI{W0:Cx}{W:World}{U:View}{σ:aH}(a:Mem W0 U σ W)(k b:Nat)(cs:List Value)(t:TypeId)(f:σ[k]? =some (b,.cells cs.toArray t (0,0))):W.rangeAt b 0 cs:=λj v d=>by
 rw[cell_of_row _ _ _ _ _ _ (a.own k b _ f).1,O0];simpa using d
structure BH (V : View) (a : Option Addr) (xs : List Value) : Prop where
 at_:xs≠[]->∃b,a=some ⟨b,0,none⟩/\V.range b 0 xs
theorem BH.le{U V:View}(h:View.le U V){a:Option Addr}{g:List Value}(f:BH U a g):BH V a g:=⟨λd=>by obtain⟨b,e,f⟩:=f.at_ d;exact⟨b,e,View.range_le h f⟩⟩
section
variable {P:Program} {n:Nat} {W0:Cx} {Q:XQ} {s:cA} {U:View} {σ:aH} {ops:Array Oper} {l:List Oper} {o:Oper}
theorem Rw.form{r:Rw}{z m:Nat}{d:List Value}(h:r.ok z m d):∃a c,r.V m=.slice a m c:=by
 cases r with
 |nil=>obtain⟨rfl,_⟩:=h;exact⟨none,0,rfl⟩
 |row b cap junk=>exact⟨_,_,rfl⟩
theorem Mb{W:World}{r:Rw}{a:List Value}{σ1:aH}{e:TypeId}(k:Mem W0 U (σ1++r.B e a) W):Mem W0 (U.or (r.W a)) σ1 W/\∀b d junk,r=.row b d junk->(U.or (r.W a)).range b 0 a:=by
 have f:Mem W0 U (σ1++(r.B e a++[])) W:=by rw[M1];exact k
 have g:=Mem.freeze f;rw[M1]at g;refine⟨g,λb d junk B j v u=>?_⟩;subst B;have A:U ⟨b,0+j,none⟩=none:=by
  have h:=(f.own (σ1.length+0) b (.cells (a++junk).toArray e (0,0)) (getElem?_mid σ1 _ [] 0 _ rfl)).2.2 ⟨b,0+j,none⟩ rfl;exact h
 refine View.or_r ?_ A;show(if b=b/\none=none then a[0+j]? else none)=some v;rw[N1 ⟨rfl,rfl⟩,O0];exact u
theorem sK(t : Nat)(r : Rw)(k : List Value)(z m : Nat)(σ1 : aH)(e : TypeId)(C : σ = σ1 ++ r.B e k)(d : r.ok z m k)(I : look s t = some (r.V m))
  (h:∀a c V,View.le U V->BH V a k->r.V m=.slice a m c->SXL P n W0 Q ops l ((t,.slice a m c)::s) V σ1):SXL P n W0 Q ops l s U σ:=by
 subst C;refine⟨λA W f F=>?_⟩;obtain⟨D,E⟩:=Mb F;obtain⟨a,c,g⟩:=Rw.form d;refine(h a c (U.or (r.W k)) (View.le_or _ _) ⟨λB=>?_⟩ g).go A W ⟨f.size,f.defers,λu x j=>?_⟩ D
 ·cases r with
  |nil=>exact absurd d.2 B
  |row b cap junk=>
   simp only[Rw.V,Value.slice.injEq,bB]at g;exact⟨b,g.1.symm,E b cap junk rfl⟩
 ·simp only[look]at j;split at j
  ·next G=>
   have:=R3 G;subst this;rw[f.slots t _ I,g];exact j
  ·exact f.slots u x j
theorem qZ(r:Rw)(z m:Nat)(j:List Value)(d:r.ok z m j)(x:Operand)(t e:TypeId)(ho:o.op=.call { callee:=.builtin .len,args:=#[x],argTypes:=#[t] })(h:evS s x=some (r.V m))(f:P.underlying t=some (.slice e))(W:World):(execOp (ev s) o).run P W=.ok (.value (.int .i64 (m:Int))) W:=by
 obtain⟨a,c,g⟩:=Rw.form d;unfold execOp;simp only[ho,resolve,invoke,builtin,Sem.run_bind,Sem.run_pure,Result.andThen_ok,Z2,R2,Z0,eM h,g,Builtin.len_];simp[run_underlying f W,goInt]
end
theorem fR.open{U:View}{a:Option Addr}{l:List Itm.Tr}(h:fR U a l)(M:l≠[]):∃(b f:Nat) (L:List (Itm.Tr×List Value)),a=some ⟨b,f,none⟩/\L.map Prod.fst=l/\iH U L/\U.range b f (L.flatMap Prod.snd):=by
 obtain⟨b,f,I,K,_,_⟩:=h.at_ 0 (l[0]'(by cases l<;>simp_all)) (K8 _);refine⟨b,f,?_⟩;subst K;have key:∀(l:List Itm.Tr) (d:Nat),(∀i x,l[i]? =some x->∃cs,U.range b (d+i*5) cs/\TV U x cs)->∃L:List (Itm.Tr×List Value),L.map Prod.fst=l/\iH U L/\U.range b d (L.flatMap Prod.snd):=by
  intro l
  induction l with
  |nil=>intro d _;exact⟨[],rfl,trivial,λj v g=>by simp at g⟩
  |cons t l ih=>
   intro d G;obtain⟨cs,J,E⟩:=G 0 t rfl;obtain⟨L,u,A,B⟩:=ih (d+5) λi x r=>by
    obtain⟨cs,C,D⟩:=G (i+1) x (by simpa using r);exact⟨cs,by rw[show d+5+i*5=d+(i+1)*5 by omega];exact C,D⟩
   refine⟨(t,cs)::L,by simp[u],⟨E,A⟩,λj v g=>?_⟩;change (cs++L.flatMap Prod.snd)[j]? =some v at g;by_cases k:j<cs.length
   ·rw[Q1 k]at g;have:=J j v g;simpa using this
   ·rw[P8 oW]at g;have:=B (j-cs.length) v g;have O:=E.len5;rw[show d+j=d+5+(j-cs.length) by omega];exact this
 obtain⟨L,u,A,B⟩:=key l f λi x r=>by
  obtain⟨N,d,cs,F,C,D⟩:=h.at_ i x r;simp only[L0,Addr.mk.injEq,bA]at F;obtain⟨rfl,rfl⟩:=F;exact⟨cs,C,D⟩
 exact⟨L,rfl,u,A,B⟩
theorem iH.flat_len{V:View}:∀{L:List (Itm.Tr×List Value)},iH V L->(L.flatMap Prod.snd).length=L.length*5
 | [],_=>rfl
 |p::r,⟨a,d⟩=>by rw[P9,L4,iH.flat_len d,a.len5,M9];omega
theorem TV.one{V:View}{t:Itm.Tr}{cs:List Value}(h:TV V t cs):∀u∈cs,u.oneCell'=true:=by
 obtain⟨a,c,rfl,_⟩:=h.form;intro u d;simp only[O6,Q8,U2]at d;rcases d with rfl|rfl|rfl|rfl|rfl<;>rfl
theorem iH.one{V:View}:∀{L:List (Itm.Tr×List Value)},iH V L->∀u∈L.flatMap Prod.snd,u.oneCell'=true
 | [],_,u,hu=>by simp at hu
 |p::r,⟨a,d⟩,u,hu=>by
  rw[P9,S3]at hu;rcases hu with hu|hu
  ·exact a.one u hu
  ·exact iH.one d u hu
theorem iH.le{U V:View}(h:View.le U V):∀{L:List (Itm.Tr×List Value)},iH U L->iH V L
 | [],_=>trivial
 |_::_,⟨a,d⟩=>⟨a.le h,d.le h⟩
theorem iH.app{V:View}:∀{L M:List (Itm.Tr×List Value)},iH V L->iH V M->iH V (L++M)
 | [],_,_,h=>h
 |_::_,_,⟨a,d⟩,h=>⟨a,d.app h⟩
theorem cG.flat{U:View}{b f:Nat}{l:List Bk}(h:∀i x,l[i]? =some x->U.range b (f+i*5) x.cs):U.range b f (l.flatMap Bk.cs):=by
 induction l generalizing f with
 |nil=>intro j v a;simp at a
 |cons x l ih=>
  intro j v a;rw[P9]at a;have d:x.cs.length=5:=rfl;by_cases g:j<5
  ·rw[Q1 oW]at a;have:=h 0 x rfl j v a;simpa using this
  ·rw[P8 oW]at a;have:=ih (f:=f+5) (λi y k=>by rw[show f+5+i*5=f+(i+1)*5 by omega];exact h (i+1) y (by simpa using k)) (j-5) v (by rw[d]at a;exact a);rw[show f+j=f+5+(j-5) by omega];exact this
theorem cG.of{U:View}{b f:Nat}{l:List Bk}(h:U.range b f (l.flatMap Bk.cs))(d:∀x∈l,x.ok)(a:l.length<=R47):cG U (some ⟨b,f,none⟩) l:=by
 refine⟨λi x g=>⟨b,f,rfl,?_⟩,d,a⟩
 induction l generalizing f i with
 |nil=>simp at g
 |cons y l ih=>
  rw[P9]at h;obtain⟨k,j⟩:=gF h;cases i with
  |zero=>simp only[P5,L0]at g;subst g;simpa using k
  |succ i=>
   have r:y.cs.length=5:=rfl;have:=ih (f:=f+5) (by rw[r]at j;exact j) (λz u=>d z (P3 _ u)) (by simp at a;omega) i (by simpa using g);rw[show f+(i+1)*5=f+5+i*5 by omega];exact this
theorem rP(l:List Bk):(l.flatMap Bk.cs).length=l.length*5:=by
 induction l with
 |nil=>rfl
 |cons x l ih=>rw[P9,L4,ih,M9];show 5+_=_;omega
theorem tK(l:List Bk):∀u∈l.flatMap Bk.cs,u.oneCell'=true:=by
 intro u d;obtain⟨x,_,a⟩:=bm.1 d;simp only[Bk.cs,O6,Q8,U2]at a;rcases a with rfl|rfl|rfl|rfl|rfl<;>rfl
end Go.Proofs.YtkoamlfiijcecaaGreatDoor.Sx
namespace Go.Proofs.YtkoamlfiijcecaaGreatDoor.Sx
open Go.ChangeShapes Go.WideShapes Go.ChangeAt Go.RowKit Go.Deep Go.ChangeMaps Go.MapKept
def mEs{α:Type}(key:α->Value):Nat->List (α×Int)->List MapEntry
 |_,[]=>[]
 |i,(k,v)::r=>{ key:=key k,val:=.int .i64 v,born:=i }::mEs key (i+1) r
def mO{α:Type}(key:α->Value)(m:List (α×Int)):Obj:=.map (mEs key 0 m).toArray m.length
def mX{α:Type}[BEq α](x:α):Nat->List (α×Int)->Option (Nat×Value)
 |_,[]=>none
 |i,(k,v)::r=>if x==k then some (i,.int .i64 v)else mX x (i+1) r
def pB{α:Type}[BEq α](x:α)(v:Int):List (α×Int)->List (α×Int)
 | []=>[(x,v)]
 |(k,u)::r=>if x==k then(k,v)::r else(k,u)::pB x v r
def gP{α:Type}[BEq α](x:α):List (α×Int)->Int
 | []=>0
 |(k,v)::r=>if x==k then v else gP x r
theorem Vv{α:Type}(key:α->Value):∀(i:Nat) (m:List (α×Int)),(mEs key i m).length=m.length
 |_,[]=>rfl
 |i,(_,_)::r=>by rw[mEs,M9,M9,Vv key (i+1) r]
theorem mC{α:Type}[BEq α](key:α->Value)(x:α)(v:Int):∀(i:Nat) (m:List (α×Int)),mX x i m=none->mEs key i (pB x v m)=mEs key i m++[{ key:=key x,val:=.int .i64 v,born:=i+m.length }]/\(pB x v m).length=m.length+1/\gP x m=0
 |i,[],_=>⟨rfl,rfl,rfl⟩
 |i,(k,u)::r,h=>by
  unfold mX at h;split at h
  ·cases h
  ·next a=>
   obtain⟨d,f,g⟩:=mC key x v (i+1) r h;refine⟨?_,?_,?_⟩
   ·rw[pB,M5 a,mEs,d,mEs,M9,show i+(r.length+1)=i+1+r.length by omega];rfl
   ·rw[pB,M5 a,M9,f,M9]
   ·rw[gP,M5 a];exact g
theorem MB{α:Type}[BEq α](x:α):∀(i:Nat) (m:List (α×Int)) (j:Nat) (y:Value),mX x i m=some (j,y)->i<=j
 |i,[],_,_,h=>by cases h
 |i,(k,u)::r,j,y,h=>by
  unfold mX at h;split at h
  ·cases h;exact O9 _
  ·have:=MB x (i+1) r j y h;omega
theorem pC{α:Type}[BEq α][LawfulBEq α](key:α->Value)(x:α)(v:Int):∀(i:Nat) (m:List (α×Int)) (j:Nat) (y:Value),mX x i m=some (j,y)->
  mEs key i (pB x v m)=(mEs key i m).modify (j-i) (λe=>{ e with key:=key x,val:=.int .i64 v })/\(pB x v m).length=m.length/\y=.int .i64 (gP x m)/\∃e,(mEs key i m)[j-i]? =some e/\e.key=key x
 |i,[],_,_,h=>by cases h
 |i,(k,u)::r,j,y,h=>by
  unfold mX at h;split at h
  ·next g=>
   simp only[L0,N3]at h;obtain⟨rfl,rfl⟩:=h;have f:=eq_of_beq g;refine⟨?_,?_,?_,?_⟩
   ·rw[pB,N1 g,U9,mEs,mEs,f];rfl
   ·rw[pB,N1 g];rfl
   ·rw[gP,N1 g]
   ·refine⟨_,by rw[U9,mEs];rfl,by rw[f]⟩
  ·next a=>
   have F:=MB x _ r j y h;obtain⟨A,B,C,e,D,E⟩:=pC key x v (i+1) r j y h;have d:j-i=(j-(i+1))+1:=by omega
   refine⟨?_,?_,?_,e,?_,E⟩
   ·rw[pB,M5 a,mEs,A,mEs,d];rfl
   ·rw[pB,M5 a,M9,B,M9]
   ·rw[gP,M5 a];exact C
   ·rw[mEs,d];exact D
structure sU (P : Program) (T : TypeId) {α : Type} [BEq α] (key : α -> Value) : Prop where
 law:∃kt et,P.underlying T=some (.map kt et)/\(∀w:World,(zeroValue et).run P w=.ok (.int .i64 0) w)/\(∀(w:World) (b:Bool) (x:α),(Instr.checkKey b 10000 kt (key x)).run P w=.ok () w)/\
  (∀(w:World) (x:α) (m:List (α×Int)),(Instr.findKey kt (key x) (mEs key 0 m)).run P w=.ok (mX x 0 m) w)/\(∀(w:World) (x:α),(Instr.keyThatStays (key x) (key x)).run P w=.ok (key x) w)
theorem GN(x:Int):∀(i:Nat) (m:List (Int×Int)),Instr.findNow (.int .i64) (.int .i64 x) (mEs (λz=>.int .i64 z) i m) i=some (mX x i m)
 |_,[]=>rfl
 |i,(k,v)::r=>by
  rw[mEs,Instr.findNow,mX];simp only[Instr.sameNow,if_true];cases a:x==k with
  |true=>simp
  |false=>simp only[N9,if_false];exact GN x (i+1) r
abbrev DF:Int->Value:=λz=>.int .i64 z
theorem ZC{P:Program}{T f a:TypeId}(h:P.underlying T=some (.map f a))(g:P.underlying f=some (.int .i64))(j:∀w:World,(zeroValue a).run P w=.ok (.int .i64 0) w):sU P T DF:=
 ⟨f,a,h,j,λw b x=>Go.MapKept.run_checkKey g (by simp[IsKey]) b 9999,λw x m=>Go.MapKept.run_findKey g (GN x 0 m),λw x=>Go.MapKept.run_keyThatStays (d:=.int .i64) (by simp[IsKey])⟩
section
variable {P:Program} {T:TypeId} {α:Type} [BEq α] [LawfulBEq α] {key:α->Value} {w:World} {b:Nat} {m:List (α×Int)}
theorem Vw(K:sU P T key)(g:w.heap[b]? =some (mO key m))(x:α):(Instr.lookup T (.map (some b)) (key x) false).run P w=.ok (.int .i64 (gP x m)) w:=by
 obtain⟨A,u,h,r,k,a,hs⟩:=K.law;unfold mO at g;have a:=a w x m;cases d:mX x 0 m with
 |none=>
  rw[d]at a;obtain⟨_,_,f⟩:=mC key x 0 0 m d;simp[Instr.lookup,run_underlying h,Go.MapKept.run_getObj_map g,k,a,r,Result.andThen,f]
 |some p=>
  obtain⟨j,y⟩:=p;rw[d]at a;obtain⟨_,_,f,_⟩:=pC key x 0 0 m j y d;simp[Instr.lookup,run_underlying h,Go.MapKept.run_getObj_map g,k,a,r,Result.andThen,f]
theorem Ev(K:sU P T key)(d:w.heap[b]? =some (mO key m))(x:α)(v:Int):(Instr.mapUpdate T (.map (some b)) (key x) (.int .i64 v)).run P w=.ok () (setBlock w b (mO key (pB x v m))):=by
 obtain⟨F,D,u,E,A,a,hs⟩:=K.law;unfold mO at d;have a:=a w x m;cases g:mX x 0 m with
 |none=>
  rw[g]at a;obtain⟨f,h,B⟩:=mC key x v 0 m g;simp[Instr.mapUpdate,run_underlying u,Go.MapKept.run_getObj_map d,A,a,Go.MapKept.run_setObj_map _ d,Result.andThen,setBlock,mO,f,h]
 |some p=>
  obtain⟨j,y⟩:=p;rw[g]at a;obtain⟨f,h,B,e,r,C⟩:=pC key x v 0 m j y g;rw[bV]at r f;have k:=hs w x;simp[Instr.mapUpdate,run_underlying u,Go.MapKept.run_getObj_map d,A,a,r,C,k,Go.MapKept.run_setObj_map _ d,Result.andThen,setBlock,mO,f,h]
end
section
variable {P:Program} {n:Nat} {W0:Cx} {Q:XQ} {s:cA} {U:View} {σ:aH} {ops:Array Oper} {l:List Oper} {o:Oper} {T:TypeId} {α:Type} [BEq α] [LawfulBEq α] {key:α->Value}
theorem qU(K : sU P T key)(k b : Nat)(m : List (α × Int))(x : α)(r j : Operand)(ho : o.op = .lookup T r j false)(hm : evS s r = some (.map (some b)))(D : evS s j = some (key x))(B : σ[k]? = some (b, mO key m))
  (g:fF n o=true) (C:dA ops s o=some true) (h:SXL P n W0 Q ops l (lQ o (.int .i64 (gP x m)) s) U σ):SXL P n W0 Q ops (o::l) s U σ:=by
 refine oT g C λa W d f E u=>?_
 have A:=(f.own k b _ B).1;unfold Oper.wp execOp;simp only[ho,eH d hm,eH d D,Vw K A x,Sem.run_bind,Sem.run_pure,Result.andThen_ok];exact u _ _ _ _ _ h (eL d g) f
theorem Yj(K : sU P T key)(k b : Nat)(m : List (α × Int))(x : α)(v : Int)(A u B : Operand)(ho : o.op = .mapUpdate T A u B)(hm : evS s A = some (.map (some b)))(I : evS s u = some (key x))(F : evS s B = some (.int .i64 v))(r : σ[k]? = some (b, mO key m))
  (j:fF n o=true) (G:dA ops s o=some true) (h:SXL P n W0 Q ops l (lQ o undef s) U (σ.set k (b,mO key (pB x v m)))):SXL P n W0 Q ops (o::l) s U σ:=by
 refine oT j G λa W d g J C=>?_
 have f:=(g.own k b _ r).1;unfold Oper.wp execOp;simp only[ho,eH d hm,eH d I,eH d F,Ev K f x v,Sem.run_bind,Sem.run_pure,Result.andThen_ok];have E:=(ab.1 f).1;exact C _ _ _ _ _ h (eL d j) (g.set k b _ _ r rfl rfl rfl (by simp[setBlock]) (heap_setBlock_same f _) (λi D=>heap_setBlock_other f _ D))
end
theorem DZ{α:Type}[BEq α][LawfulBEq α](x y:α)(v:Int):∀m:List (α×Int),gP x (pB y v m)=if x==y then v else gP x m
 | []=>rfl
 |(k,u)::r=>by
  rw[pB];cases a:y==k with
  |true=>
   simp only[if_true,gP];rw[eq_of_beq a];cases x==k<;>simp
  |false=>
   simp only[N9,if_false,gP,DZ x y v r];cases d:x==y with
   |true=>rw[eq_of_beq d,a];simp
   |false=>simp
end Go.Proofs.YtkoamlfiijcecaaGreatDoor.Sx
namespace Go.Proofs.YtkoamlfiijcecaaGreatDoor
open Go.ChangeShapes Go.WideShapes Go.ChangeAt Go.RowKit Go.Deep
section
variable {P:Program} {ops:Array Oper} {Q:Exit->Act->World->Prop} {md:Region.Mode}
theorem lS{G : Nat}(m fuel r : Nat)(ds : List Tmp)(Inv : (Nat -> Bool) -> (Nat -> Value) -> World -> Prop){a0 : Act}{w : World}
  (hm:P.follows .mixedOrders=true) (D:ops.size=m+fuel)
  (g:ds.length=m) (B:pI ops ds=true) (C:nodupB ds=true) (a:fQ .any ops m=true) (d:lP .any ops m r=true)
  (F:∀u,Inv (λ_=>false) u w.drew)
  (f:∀i,i<m->∀(L:Nat->Bool) (u:Nat->Value) (w:World),Inv L u w->L i=false->(∀j,cH .any ops i j=true->L j=true/\j<m)->(∀k j,L k=true->cH .any ops k j=true->L j=true)->
   ∀K:Act->World->Prop,(∀v E,Inv (λj=>if j=i then true else L j) (λj=>if j=i then v else u j) E->K ((fA ds 0 u a0).put ((ops[i]?).bind (·.dst)) v) E)->wpOp P ops Q i K (fA ds 0 u a0) w)
  (A:∀L u w,Inv L u w->(∀i,i<m->L i=true)->wpAny P .any ops Q fuel (firstM m ops.size) (fA ds 0 u a0) w):(Code.region G ops true).wp P Q a0 w:=by
 refine wp_region_any hm ?_;have h:=NM (md:=.any) m ds Inv (w0:=w.drew) g B C (R4 oW) a d F f A;rw[<-D]at h;exact h
end
end Go.Proofs.YtkoamlfiijcecaaGreatDoor
