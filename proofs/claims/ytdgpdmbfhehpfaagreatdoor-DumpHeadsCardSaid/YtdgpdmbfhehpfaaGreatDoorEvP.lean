/-
  The plans of the drawn regions.
-/
import Derived.Test.YtdgpdmbfhehpfaaGreatDoorEvB
set_option linter.all false
namespace Go.Proofs.YtdgpdmbfhehpfaaGreatDoor.Ev

def pl10 : Nat → Plan
  | 14 => .take 0 (.take 1 (.take 2 (.take 3 (.take 4 (.take 5 (.take 6 (.take 7 (.take 8 (.take 9 (.take 10 (.take 11 (.take 12 (.take 13 (.take 14 (.take 15 (.take 16 (.take 17 (.done))))))))))))))))))
  | _ => .stuck

def pl11 : Nat → Plan
  | 3 => .take 0 (.take 1 (.take 2 (.br 3 (.br 4 (.done) (.none)) (.none))))
  | 6 => .take 0 (.take 1 (.take 2 (.take 3 (.take 4 (.take 5 (.take 6 (.br 7 (.br 8 (.done) (.none)) (.none))))))))
  | _ => .stuck

def pl20 : Nat → Plan
  | 5 => .take 0 (.take 1 (.take 2 (.take 3 (.take 4 (.take 5 (.take 6 (.take 7 (.take 8 (.take 9 (.take 10 (.take 11 (.take 12 (.take 13 (.take 14 (.take 15 (.take 16 (.take 17 (.done))))))))))))))))))
  | _ => .stuck

def pl21 : Nat → Plan
  | 9 => .take 0 (.take 1 (.br 2 (.done) (.none)))
  | 13 => .take 0 (.take 1 (.br 2 (.done) (.none)))
  | 14 => .take 0 (.take 1 (.take 2 (.take 3 (.take 4 (.take 5 (.take 6 (.take 7 (.take 8 (.br 9 (.take 10 (.take 11 (.take 12 (.take 13 (.take 14 (.br 15 (.br 16 (.done) (.none)) (.none))))))) (.none))))))))))
  | 16 => .take 0 (.take 1 (.br 2 (.done) (.none)))
  | 24 => .take 0 (.take 1 (.take 2 (.take 3 (.take 4 (.take 5 (.take 6 (.take 7 (.take 8 (.take 9 (.take 10 (.br 11 (.br 12 (.take 13 (.take 14 (.br 15 (.done) (.none)))) (.none)) (.none))))))))))))
  | 30 => .take 0 (.take 1 (.take 2 (.take 3 (.take 4 (.take 5 (.take 6 (.br 7 (.done) (.none))))))))
  | 35 => .take 0 (.take 1 (.take 2 (.take 3 (.take 4 (.take 5 (.br 6 (.done) (.none)))))))
  | _ => .stuck

def pl22 : Nat → Plan
  | 8 => .take 0 (.take 1 (.take 2 (.take 3 (.take 4 (.take 5 (.take 6 (.take 7 (.take 8 (.take 9 (.take 10 (.take 11 (.br 12 (.done) (.none)))))))))))))
  | _ => .stuck

def pl23 : Nat → Plan
  | 3 => .take 0 (.take 1 (.take 2 (.take 3 (.take 4 (.take 5 (.take 6 (.take 7 (.take 8 (.take 9 (.take 10 (.take 11 (.take 12 (.take 13 (.take 14 (.take 15 (.done))))))))))))))))
  | _ => .stuck

def pl25 : Nat → Plan
  | 3 => .take 0 (.take 1 (.take 2 (.take 3 (.take 4 (.take 5 (.take 6 (.take 7 (.take 8 (.take 9 (.take 10 (.take 11 (.take 12 (.take 13 (.br 14 (.take 15 (.take 16 (.take 17 (.br 18 (.br 19 (.br 20 (.br 21 (.done) (.none)) (.none)) (.none)) (.br 19 (.br 18 (.br 20 (.br 21 (.done) (.none)) (.none)) (.none)) (.none)))))) (.br 18 (.br 14 (.take 15 (.take 16 (.take 17 (.br 19 (.br 20 (.br 21 (.done) (.none)) (.none)) (.none))))) (.br 19 (.br 14 (.take 15 (.take 16 (.take 17 (.br 20 (.br 21 (.done) (.none)) (.none))))) (.none)) (.none))) (.br 19 (.br 14 (.take 15 (.take 16 (.take 17 (.br 18 (.br 20 (.br 21 (.done) (.none)) (.none)) (.none))))) (.br 18 (.br 14 (.take 15 (.take 16 (.take 17 (.br 20 (.br 21 (.done) (.none)) (.none))))) (.none)) (.none))) (.none)))))))))))))))))
  | _ => .stuck

def pl30 : Nat → Plan
  | 1 => .take 0 (.take 1 (.take 2 (.take 3 (.take 5 (.take 6 (.take 7 (.take 8 (.take 9 (.br 4 (.br 10 (.take 11 (.done)) (.none)) (.none))))))))))
  | _ => .stuck

def pl32 : Nat → Plan
  | 11 => .take 0 (.take 1 (.take 2 (.take 3 (.take 4 (.take 5 (.take 6 (.br 7 (.br 8 (.take 9 (.br 10 (.done) (.none))) (.none)) (.none))))))))
  | _ => .stuck

def pl34 : Nat → Plan
  | 5 => .take 0 (.take 1 (.take 2 (.take 3 (.take 4 (.take 5 (.take 6 (.take 7 (.br 8 (.take 9 (.take 10 (.take 11 (.br 12 (.br 13 (.take 14 (.done)) (.none)) (.none))))) (.br 12 (.br 8 (.take 9 (.take 10 (.take 11 (.br 13 (.take 14 (.done)) (.none))))) (.none)) (.none))))))))))
  | _ => .stuck

def pl35 : Nat → Plan
  | 1 => .take 0 (.take 2 (.take 3 (.br 1 (.br 4 (.take 5 (.done)) (.none)) (.none))))
  | _ => .stuck

def pl39 : Nat → Plan
  | 4 => .take 0 (.take 1 (.br 2 (.br 3 (.done) (.none)) (.none)))
  | 5 => .take 0 (.take 1 (.br 2 (.br 3 (.done) (.none)) (.none)))
  | _ => .stuck

def pl40 : Nat → Plan
  | 4 => .take 0 (.take 1 (.br 2 (.done) (.none)))
  | 5 => .take 0 (.take 1 (.take 2 (.br 3 (.done) (.none))))
  | _ => .stuck

def pl41 : Nat → Plan
  | 3 => .take 0 (.take 1 (.br 2 (.br 3 (.done) (.none)) (.none)))
  | 6 => .take 0 (.take 1 (.br 2 (.br 3 (.done) (.none)) (.none)))
  | 11 => .take 0 (.take 1 (.take 2 (.take 4 (.take 5 (.br 3 (.br 6 (.br 7 (.br 8 (.done) (.none)) (.none)) (.none)) (.br 6 (.br 3 (.br 7 (.br 8 (.done) (.none)) (.none)) (.none)) (.none)))))))
  | 14 => .take 0 (.take 1 (.take 2 (.take 3 (.br 4 (.br 5 (.done) (.none)) (.none)))))
  | 22 => .take 0 (.take 1 (.take 2 (.take 3 (.br 4 (.br 5 (.done) (.none)) (.none)))))
  | 33 => .take 0 (.take 1 (.take 2 (.take 3 (.take 4 (.take 5 (.take 6 (.take 8 (.take 9 (.take 10 (.take 11 (.take 12 (.br 7 (.br 13 (.take 14 (.take 15 (.br 16 (.done) (.none)))) (.none)) (.br 13 (.br 7 (.take 14 (.take 15 (.br 16 (.done) (.none)))) (.none)) (.none))))))))))))))
  | 34 => .take 0 (.take 1 (.take 2 (.take 3 (.take 4 (.take 5 (.take 6 (.br 7 (.br 8 (.take 9 (.take 10 (.take 11 (.br 12 (.done) (.none))))) (.none)) (.none))))))))
  | _ => .stuck

def pl43 : Nat → Plan
  | 26 => .take 0 (.take 1 (.take 2 (.take 3 (.take 4 (.take 5 (.take 6 (.br 7 (.take 8 (.take 9 (.take 10 (.done)))) (.none))))))))
  | _ => .stuck

def pl45 : Nat → Plan
  | 20 => .take 0 (.take 1 (.take 2 (.take 3 (.take 4 (.take 5 (.take 6 (.take 7 (.take 8 (.take 9 (.take 10 (.take 11 (.take 12 (.br 13 (.take 14 (.done)) (.none))))))))))))))
  | _ => .stuck

def pl46 : Nat → Plan
  | 1 => .take 0 (.take 1 (.take 2 (.take 3 (.take 4 (.take 5 (.take 6 (.take 8 (.take 9 (.take 10 (.take 11 (.take 12 (.take 14 (.take 15 (.take 16 (.take 17 (.take 18 (.take 19 (.take 20 (.take 21 (.take 22 (.take 23 (.take 24 (.take 25 (.take 26 (.take 27 (.take 28 (.take 29 (.take 30 (.take 31 (.take 32 (.take 33 (.take 34 (.take 35 (.take 36 (.take 37 (.take 38 (.br 7 (.br 13 (.take 39 (.take 40 (.take 41 (.br 42 (.done) (.none))))) (.none)) (.none))))))))))))))))))))))))))))))))))))))
  | _ => .stuck

def pl48 : Nat → Plan
  | 13 => .take 0 (.take 1 (.take 2 (.take 3 (.take 4 (.br 5 (.br 6 (.take 7 (.take 8 (.take 9 (.take 10 (.take 11 (.done)))))) (.none)) (.none))))))
  | _ => .stuck

def pl55 : Nat → Plan
  | 1 => .take 0 (.take 1 (.take 2 (.take 3 (.take 4 (.take 5 (.take 6 (.take 7 (.take 8 (.take 9 (.take 10 (.take 11 (.take 12 (.take 13 (.take 14 (.take 15 (.take 16 (.take 17 (.take 18 (.take 19 (.take 20 (.take 21 (.take 22 (.take 23 (.done))))))))))))))))))))))))
  | 9 => .take 0 (.take 1 (.take 2 (.take 3 (.take 4 (.take 5 (.take 6 (.br 7 (.br 8 (.take 9 (.br 10 (.done) (.none))) (.none)) (.none))))))))
  | _ => .stuck

def pl58 : Nat → Plan
  | 17 => .take 0 (.take 1 (.take 2 (.take 3 (.take 4 (.take 5 (.take 6 (.take 7 (.take 8 (.take 9 (.take 10 (.take 11 (.br 12 (.take 13 (.take 14 (.done))) (.none)))))))))))))
  | _ => .stuck

def pl62 : Nat → Plan
  | 3 => .take 0 (.take 1 (.take 2 (.br 3 (.br 4 (.br 5 (.take 6 (.br 7 (.done) (.none))) (.none)) (.none)) (.none))))
  | _ => .stuck

def pl63 : Nat → Plan
  | 1 => .take 0 (.take 1 (.take 2 (.take 3 (.take 4 (.take 5 (.take 6 (.take 7 (.take 8 (.take 9 (.done))))))))))
  | 2 => .take 0 (.take 1 (.take 2 (.take 3 (.take 4 (.take 5 (.take 6 (.take 7 (.take 8 (.take 9 (.take 10 (.take 11 (.take 12 (.br 13 (.done) (.none))))))))))))))
  | 3 => .take 0 (.take 1 (.take 2 (.take 3 (.take 4 (.take 5 (.take 6 (.take 7 (.take 8 (.take 9 (.br 10 (.done) (.none)))))))))))
  | _ => .stuck

def pl66 : Nat → Plan
  | 3 => .take 0 (.take 1 (.br 2 (.br 3 (.br 4 (.br 5 (.done) (.none)) (.none)) (.none)) (.none)))
  | _ => .stuck

def pl67 : Nat → Plan
  | 8 => .take 0 (.take 1 (.take 2 (.take 3 (.br 4 (.br 5 (.br 6 (.take 7 (.br 8 (.done) (.none))) (.none)) (.none)) (.none)))))
  | _ => .stuck

def pl69 : Nat → Plan
  | 13 => .take 0 (.take 1 (.take 2 (.take 4 (.take 5 (.br 3 (.br 6 (.br 7 (.br 8 (.take 9 (.take 10 (.take 11 (.take 12 (.take 13 (.done)))))) (.none)) (.none)) (.none)) (.br 6 (.br 3 (.br 7 (.br 8 (.take 9 (.take 10 (.take 11 (.take 12 (.take 13 (.done)))))) (.none)) (.none)) (.none)) (.none)))))))
  | _ => .stuck

def pl70 : Nat → Plan
  | 7 => .take 1 (.take 2 (.take 3 (.take 5 (.take 6 (.br 0 (.br 4 (.br 7 (.br 8 (.take 9 (.done)) (.none)) (.none)) (.none)) (.none))))))
  | _ => .stuck

def pl72 : Nat → Plan
  | 3 => .take 0 (.take 1 (.take 2 (.take 3 (.take 4 (.take 5 (.br 6 (.take 7 (.take 8 (.take 9 (.take 10 (.take 11 (.done)))))) (.none)))))))
  | 5 => .take 0 (.take 1 (.take 2 (.take 3 (.take 4 (.take 5 (.take 6 (.take 7 (.take 8 (.take 9 (.take 10 (.take 11 (.br 12 (.br 13 (.take 14 (.take 15 (.take 16 (.br 17 (.done) (.none))))) (.none)) (.none)))))))))))))
  | _ => .stuck

def pl74 : Nat → Plan
  | 6 => .take 0 (.take 1 (.take 2 (.take 3 (.take 4 (.br 5 (.take 6 (.take 7 (.take 8 (.take 9 (.take 10 (.done)))))) (.none))))))
  | 9 => .take 0 (.take 1 (.take 2 (.take 3 (.take 4 (.br 5 (.take 6 (.take 7 (.take 8 (.take 9 (.take 10 (.done)))))) (.none))))))
  | 11 => .take 0 (.take 1 (.take 2 (.take 3 (.take 4 (.take 5 (.take 6 (.br 7 (.br 8 (.take 9 (.take 10 (.take 11 (.br 12 (.done) (.none))))) (.none)) (.none))))))))
  | _ => .stuck

def pl75 : Nat → Plan
  | 1 => .take 1 (.take 2 (.take 3 (.take 5 (.take 6 (.br 0 (.br 4 (.br 7 (.br 8 (.take 9 (.done)) (.none)) (.none)) (.none)) (.none))))))
  | _ => .stuck

def pl76 : Nat → Plan
  | 1 => .take 0 (.take 1 (.take 2 (.take 3 (.take 4 (.take 5 (.br 6 (.take 7 (.br 8 (.br 9 (.done) (.none)) (.none))) (.br 8 (.br 6 (.take 7 (.br 9 (.done) (.none))) (.none)) (.none))))))))
  | 6 => .take 0 (.take 1 (.take 2 (.take 3 (.take 4 (.br 5 (.br 6 (.take 7 (.done)) (.none)) (.none))))))
  | 12 => .take 0 (.take 1 (.take 2 (.take 3 (.take 4 (.take 5 (.take 6 (.br 7 (.br 8 (.take 9 (.take 10 (.take 11 (.br 12 (.done) (.none))))) (.none)) (.none))))))))
  | _ => .stuck

def pl80 : Nat → Plan
  | 8 => .take 0 (.take 1 (.take 2 (.take 3 (.take 4 (.take 5 (.take 6 (.take 7 (.take 8 (.take 9 (.take 10 (.take 11 (.take 12 (.br 13 (.br 14 (.take 15 (.br 16 (.done) (.none))) (.none)) (.none))))))))))))))
  | 14 => .take 0 (.take 1 (.take 2 (.take 3 (.take 4 (.take 5 (.take 6 (.take 7 (.take 8 (.take 9 (.take 10 (.done)))))))))))
  | 24 => .take 0 (.take 1 (.take 2 (.take 3 (.take 4 (.take 5 (.take 6 (.take 7 (.take 8 (.take 9 (.take 10 (.take 11 (.take 12 (.take 13 (.take 14 (.take 15 (.take 16 (.take 17 (.take 18 (.take 19 (.take 20 (.take 21 (.take 22 (.take 23 (.take 24 (.take 25 (.take 26 (.take 27 (.take 28 (.take 29 (.take 30 (.done)))))))))))))))))))))))))))))))
  | _ => .stuck

def pl89 : Nat → Plan
  | 1 => .take 0 (.take 1 (.take 2 (.take 3 (.take 4 (.take 5 (.take 6 (.take 7 (.take 8 (.take 9 (.take 10 (.take 11 (.take 12 (.take 13 (.take 14 (.take 15 (.take 16 (.take 17 (.take 18 (.take 19 (.take 20 (.take 21 (.take 22 (.take 23 (.take 24 (.take 25 (.take 26 (.done)))))))))))))))))))))))))))
  | _ => .stuck

def pl90 : Nat → Plan
  | 2 => .take 0 (.take 1 (.take 2 (.br 3 (.done) (.none))))
  | _ => .stuck

def pl91 : Nat → Plan
  | 5 => .take 0 (.take 1 (.take 2 (.take 3 (.take 4 (.take 5 (.take 6 (.take 7 (.take 8 (.take 9 (.take 10 (.br 11 (.br 12 (.take 13 (.take 14 (.br 15 (.done) (.none)))) (.none)) (.none))))))))))))
  | 6 => .take 0 (.take 1 (.take 2 (.take 3 (.take 4 (.take 5 (.br 6 (.done) (.none)))))))
  | 7 => .take 0 (.take 1 (.take 2 (.take 3 (.take 4 (.take 5 (.take 6 (.take 7 (.take 8 (.take 9 (.take 10 (.take 11 (.take 13 (.br 12 (.br 14 (.br 15 (.br 16 (.done) (.none)) (.none)) (.none)) (.br 14 (.br 12 (.br 15 (.br 16 (.done) (.none)) (.none)) (.none)) (.none)))))))))))))))
  | 12 => .take 0 (.take 1 (.take 2 (.take 3 (.take 4 (.take 5 (.br 6 (.br 7 (.take 8 (.take 10 (.br 9 (.br 11 (.done) (.none)) (.none)))) (.none)) (.none)))))))
  | 14 => .take 0 (.take 1 (.take 2 (.take 3 (.take 4 (.take 5 (.br 6 (.br 7 (.take 8 (.take 9 (.br 10 (.done) (.none)))) (.none)) (.none)))))))
  | _ => .stuck

def pl106 : Nat → Plan
  | 4 => .take 0 (.take 1 (.take 2 (.take 3 (.take 4 (.take 5 (.take 6 (.take 7 (.take 8 (.take 9 (.take 10 (.take 11 (.take 12 (.br 13 (.take 14 (.done)) (.none))))))))))))))
  | 6 => .take 0 (.take 1 (.take 2 (.take 3 (.take 4 (.take 5 (.take 6 (.take 7 (.take 8 (.take 9 (.take 10 (.take 11 (.take 12 (.take 13 (.take 14 (.br 15 (.take 16 (.br 17 (.done) (.none))) (.none))))))))))))))))
  | _ => .stuck

def pl119 : Nat → Plan
  | 3 => .take 0 (.take 1 (.take 2 (.br 3 (.done) (.none))))
  | _ => .stuck

def pl126 : Nat → Plan
  | 6 => .take 0 (.take 1 (.take 2 (.take 3 (.done))))
  | 8 => .take 0 (.take 1 (.take 2 (.take 3 (.done))))
  | _ => .stuck

def pl137 : Nat → Plan
  | 8 => .take 0 (.take 1 (.take 2 (.take 3 (.take 4 (.take 5 (.take 6 (.take 7 (.take 8 (.take 9 (.done))))))))))
  | _ => .stuck

def pl151 : Nat → Plan
  | 1 => .take 0 (.take 1 (.take 2 (.take 3 (.br 4 (.take 5 (.br 6 (.done) (.none))) (.none)))))
  | _ => .stuck

def pl188 : Nat → Plan
  | 1 => .take 0 (.take 2 (.take 4 (.take 6 (.br 1 (.br 3 (.br 5 (.br 7 (.take 8 (.br 9 (.take 10 (.done)) (.none))) (.none)) (.br 7 (.br 5 (.take 8 (.br 9 (.take 10 (.done)) (.none))) (.none)) (.none))) (.br 5 (.br 3 (.br 7 (.take 8 (.br 9 (.take 10 (.done)) (.none))) (.none)) (.br 7 (.br 3 (.take 8 (.br 9 (.take 10 (.done)) (.none))) (.none)) (.none))) (.br 7 (.br 3 (.br 5 (.take 8 (.br 9 (.take 10 (.done)) (.none))) (.none)) (.br 5 (.br 3 (.take 8 (.br 9 (.take 10 (.done)) (.none))) (.none)) (.none))) (.none)))) (.br 3 (.br 1 (.br 5 (.br 7 (.take 8 (.br 9 (.take 10 (.done)) (.none))) (.none)) (.br 7 (.br 5 (.take 8 (.br 9 (.take 10 (.done)) (.none))) (.none)) (.none))) (.br 5 (.br 1 (.br 7 (.take 8 (.br 9 (.take 10 (.done)) (.none))) (.none)) (.br 7 (.br 1 (.take 8 (.br 9 (.take 10 (.done)) (.none))) (.none)) (.none))) (.br 7 (.br 1 (.br 5 (.take 8 (.br 9 (.take 10 (.done)) (.none))) (.none)) (.br 5 (.br 1 (.take 8 (.br 9 (.take 10 (.done)) (.none))) (.none)) (.none))) (.none)))) (.br 5 (.br 1 (.br 3 (.br 7 (.take 8 (.br 9 (.take 10 (.done)) (.none))) (.none)) (.br 7 (.br 3 (.take 8 (.br 9 (.take 10 (.done)) (.none))) (.none)) (.none))) (.br 3 (.br 1 (.br 7 (.take 8 (.br 9 (.take 10 (.done)) (.none))) (.none)) (.br 7 (.br 1 (.take 8 (.br 9 (.take 10 (.done)) (.none))) (.none)) (.none))) (.br 7 (.br 1 (.br 3 (.take 8 (.br 9 (.take 10 (.done)) (.none))) (.none)) (.br 3 (.br 1 (.take 8 (.br 9 (.take 10 (.done)) (.none))) (.none)) (.none))) (.none)))) (.br 7 (.br 1 (.br 3 (.br 5 (.take 8 (.br 9 (.take 10 (.done)) (.none))) (.none)) (.br 5 (.br 3 (.take 8 (.br 9 (.take 10 (.done)) (.none))) (.none)) (.none))) (.br 3 (.br 1 (.br 5 (.take 8 (.br 9 (.take 10 (.done)) (.none))) (.none)) (.br 5 (.br 1 (.take 8 (.br 9 (.take 10 (.done)) (.none))) (.none)) (.none))) (.br 5 (.br 1 (.br 3 (.take 8 (.br 9 (.take 10 (.done)) (.none))) (.none)) (.br 3 (.br 1 (.take 8 (.br 9 (.take 10 (.done)) (.none))) (.none)) (.none))) (.none)))) (.none))))))))
  | 10 => .take 0 (.take 1 (.take 2 (.take 3 (.take 4 (.take 5 (.take 6 (.take 7 (.take 8 (.take 9 (.take 10 (.take 11 (.take 12 (.take 13 (.take 14 (.take 15 (.br 16 (.br 17 (.take 18 (.br 19 (.done) (.none))) (.none)) (.none)))))))))))))))))
  | _ => .stuck

def pl189 : Nat → Plan
  | 3 => .take 0 (.take 1 (.take 2 (.take 3 (.take 4 (.take 5 (.take 6 (.take 7 (.take 8 (.take 9 (.take 10 (.take 11 (.take 12 (.take 13 (.take 14 (.take 15 (.done))))))))))))))))
  | 4 => .take 0 (.take 1 (.take 2 (.take 3 (.take 4 (.take 5 (.take 6 (.take 7 (.take 8 (.take 9 (.take 10 (.take 11 (.take 12 (.take 13 (.take 14 (.take 15 (.take 16 (.done)))))))))))))))))
  | 9 => .take 0 (.take 1 (.take 2 (.take 3 (.take 4 (.take 5 (.take 6 (.take 7 (.take 8 (.take 9 (.take 10 (.take 11 (.take 12 (.take 13 (.take 14 (.take 15 (.take 16 (.take 17 (.take 18 (.take 19 (.take 20 (.take 21 (.take 22 (.take 23 (.take 24 (.br 25 (.take 26 (.br 27 (.done) (.none))) (.none))))))))))))))))))))))))))
  | 15 => .take 0 (.take 1 (.take 2 (.take 3 (.take 4 (.take 5 (.take 6 (.take 7 (.take 8 (.take 9 (.take 10 (.take 11 (.take 12 (.take 13 (.take 14 (.take 15 (.take 16 (.take 17 (.take 18 (.br 19 (.take 20 (.br 21 (.done) (.none))) (.none))))))))))))))))))))
  | _ => .stuck

def pl220 : Nat → Plan
  | 17 => .take 0 (.take 1 (.take 2 (.take 3 (.take 4 (.take 5 (.take 6 (.take 7 (.br 8 (.done) (.none)))))))))
  | 19 => .take 0 (.take 1 (.take 2 (.take 3 (.take 4 (.take 5 (.take 6 (.take 7 (.take 8 (.take 9 (.take 10 (.br 11 (.br 12 (.done) (.none)) (.none))))))))))))
  | _ => .stuck

def pl225 : Nat → Plan
  | 2 => .take 0 (.take 1 (.take 2 (.take 3 (.take 4 (.take 5 (.take 6 (.take 7 (.take 8 (.take 9 (.br 10 (.done) (.none)))))))))))
  | 3 => .take 0 (.take 1 (.take 2 (.take 3 (.take 4 (.take 5 (.take 6 (.take 7 (.take 8 (.take 9 (.br 10 (.done) (.none)))))))))))
  | _ => .stuck

def pl226 : Nat → Plan
  | 0 => .take 0 (.take 1 (.take 2 (.take 3 (.take 4 (.take 5 (.take 6 (.take 7 (.take 8 (.take 9 (.take 10 (.take 11 (.take 12 (.take 13 (.take 14 (.done)))))))))))))))
  | 1 => .take 0 (.take 1 (.take 2 (.take 3 (.take 4 (.take 5 (.take 6 (.take 7 (.take 8 (.take 9 (.take 10 (.take 11 (.take 12 (.done)))))))))))))
  | 2 => .take 0 (.take 1 (.take 2 (.take 3 (.take 4 (.take 5 (.take 6 (.take 7 (.take 8 (.take 9 (.take 10 (.take 11 (.take 12 (.take 13 (.br 14 (.done) (.none)))))))))))))))
  | 3 => .take 0 (.take 1 (.take 2 (.take 3 (.take 4 (.take 5 (.take 6 (.take 7 (.take 8 (.take 9 (.br 10 (.done) (.none)))))))))))
  | _ => .stuck

def pl258 : Nat → Plan
  | 1 => .take 0 (.take 1 (.take 2 (.take 3 (.take 4 (.take 5 (.take 6 (.take 7 (.take 8 (.take 9 (.done))))))))))
  | 2 => .take 0 (.take 1 (.take 2 (.take 3 (.take 4 (.take 5 (.take 6 (.take 7 (.take 8 (.br 9 (.take 10 (.done)) (.none))))))))))
  | 4 => .take 0 (.take 1 (.take 2 (.take 3 (.take 4 (.take 5 (.take 6 (.take 7 (.take 8 (.take 9 (.take 10 (.done)))))))))))
  | 5 => .take 0 (.take 1 (.take 2 (.take 3 (.take 4 (.take 5 (.take 6 (.take 7 (.take 8 (.take 9 (.take 10 (.take 11 (.take 12 (.take 13 (.take 14 (.take 15 (.take 16 (.take 17 (.take 18 (.take 19 (.take 20 (.take 21 (.done))))))))))))))))))))))
  | 7 => .take 0 (.take 1 (.take 2 (.take 3 (.take 4 (.take 5 (.take 6 (.take 7 (.take 8 (.br 9 (.take 10 (.done)) (.none))))))))))
  | 11 => .take 0 (.take 1 (.take 2 (.take 3 (.take 4 (.take 5 (.take 6 (.take 7 (.take 8 (.take 9 (.done))))))))))
  | 13 => .take 0 (.take 1 (.take 2 (.take 3 (.take 4 (.take 5 (.take 6 (.take 7 (.take 8 (.br 9 (.take 10 (.done)) (.none))))))))))
  | 16 => .take 0 (.take 1 (.take 2 (.take 3 (.take 4 (.take 5 (.take 6 (.take 7 (.take 8 (.br 9 (.take 10 (.done)) (.none))))))))))
  | _ => .stuck

def pl399 : Nat → Plan
  | 1 => .take 0 (.take 1 (.take 2 (.take 3 (.take 4 (.br 5 (.br 6 (.done) (.none)) (.none))))))
  | _ => .stuck

def plansT : Nat → Nat → Plan
  | 10 => pl10
  | 11 => pl11
  | 20 => pl20
  | 21 => pl21
  | 22 => pl22
  | 23 => pl23
  | 25 => pl25
  | 30 => pl30
  | 32 => pl32
  | 34 => pl34
  | 35 => pl35
  | 39 => pl39
  | 40 => pl40
  | 41 => pl41
  | 43 => pl43
  | 45 => pl45
  | 46 => pl46
  | 48 => pl48
  | 55 => pl55
  | 58 => pl58
  | 62 => pl62
  | 63 => pl63
  | 66 => pl66
  | 67 => pl67
  | 69 => pl69
  | 70 => pl70
  | 72 => pl72
  | 74 => pl74
  | 75 => pl75
  | 76 => pl76
  | 80 => pl80
  | 89 => pl89
  | 90 => pl90
  | 91 => pl91
  | 106 => pl106
  | 119 => pl119
  | 126 => pl126
  | 137 => pl137
  | 151 => pl151
  | 188 => pl188
  | 189 => pl189
  | 220 => pl220
  | 225 => pl225
  | 226 => pl226
  | 258 => pl258
  | 399 => pl399
  | _ => fun _ => .stuck

end Go.Proofs.YtdgpdmbfhehpfaaGreatDoor.Ev
